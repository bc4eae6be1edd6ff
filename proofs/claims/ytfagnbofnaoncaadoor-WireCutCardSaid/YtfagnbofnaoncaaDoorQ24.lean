/- L.Row: a row by numbers. -/
import Derived.Test.YtfagnbofnaoncaaDoorQ23
import Derived.Test.YtfagnbofnaoncaaDoorQ1
import Derived.Test.YtfagnbofnaoncaaDoorQ7
set_option linter.unusedSimpArgs false
set_option linter.unusedVariables false
namespace Go.Proofs.YtfagnbofnaoncaaDoor
open Go Go.RowKit
attribute [local go_sem] yields yUpon ro8

/-- What makes a row be, by numbers. -/
def GenLive (c : Cl) : Prop := c.val = ⟨#[]⟩ ∧ c.dead = false ∧ ((c.at_ = 0 ∧ c.fin = 0) ∨ (1 ≤ c.at_ ∧ c.at_ ≤ 7 ∧ 0 ≤ c.fin ∧ c.fin ≤ 10))
structure GenRow (r : Ro) : Prop where
  live : GenLive r.live
  gone : 0 ≤ r.gone ∧ r.gone ≤ 7
  shade : r.shade = 0
  cols : GenCols 4 r.cols

/-- The row under way: its box, the box of the result, the numbers that are left. -/
structure RowAL (W w : World) (p : Nat) (key : ByteArray) (wr : World) (live : Cl) (gone : Int) (cols : List Co) (vc : Value) : Prop where
  box : BoxAt wr (w.heap.size + 1) (ro8 ⟨key, live, gone, 0, cols⟩ vc) 88
  res : BoxAt wr w.heap.size (ro8 ⟨⟨#[]⟩, zeroCl, 0, 0, []⟩ (.slice none 0 0)) 88
  left : LeftIn W wr p
  grown : w.grownBy wr (some p)
theorem LeftIn.other {W w : World} {p q i : Nat} {u : Value} (h : LeftIn W w p) (hne : p ≠ q) : LeftIn W (w.setCell ⟨q, i, none⟩ u) p := by
  obtain ⟨v, l, hv, hin⟩ := h
  exact ⟨v, l, hv.other hne i u, hin⟩
theorem grownBy_new {w wr : World} {r : Option Nat} {q i : Nat} {u : Value} (h : w.grownBy wr r) (hq : w.heap.size ≤ q) : w.grownBy (wr.setCell ⟨q, i, none⟩ u) r :=
  ⟨h.os, h.tape, h.output, Nat.le_trans h.size (by rw [Deep.nblk_setCell]; exact Nat.le_refl _), fun k hk hne => (Deep.blk_setCell_other _ _ _ _ (fun e => by subst e; omega)).trans (h.block k hk hne)⟩
section
variable {W w : World} {p : Nat} {key : ByteArray} {wr : World} {live : Cl} {gone : Int} {cols : List Co} {vc : Value}
theorem RowAL.fin (hpl : p < w.heap.size) {x : Int} (h : RowAL W w p key wr live gone cols vc) : RowAL W w p key (wr.setCell ⟨w.heap.size + 1, 4, none⟩ (.int .i64 x)) ⟨live.val, live.dead, live.at_, x⟩ gone cols vc :=
  ⟨h.box.set 4 _, h.res.other (by omega) 4 _, h.left.other (by omega), grownBy_new h.grown (Nat.le_succ _)⟩
theorem RowAL.gone' (hpl : p < w.heap.size) {x : Int} (h : RowAL W w p key wr live gone cols vc) : RowAL W w p key (wr.setCell ⟨w.heap.size + 1, 5, none⟩ (.int .i64 x)) live x cols vc :=
  ⟨h.box.set 5 _, h.res.other (by omega) 5 _, h.left.other (by omega), grownBy_new h.grown (Nat.le_succ _)⟩
theorem RowAL.live4 (hpl : p < w.heap.size) {c : Cl} (h : RowAL W w p key wr live gone cols vc) : RowAL W w p key ((((wr.setCell ⟨w.heap.size + 1, 1, none⟩ (.string c.val)).setCell ⟨w.heap.size + 1, 2, none⟩ (.bool c.dead)).setCell ⟨w.heap.size + 1, 3, none⟩ (.int .i64 c.at_)).setCell ⟨w.heap.size + 1, 4, none⟩ (.int .i64 c.fin)) c gone cols vc :=
  ⟨(((h.box.set 1 _).set 2 _).set 3 _).set 4 _, (((h.res.other (by omega) 1 _).other (by omega) 2 _).other (by omega) 3 _).other (by omega) 4 _,
   (((h.left.other (by omega)).other (by omega)).other (by omega)).other (by omega), grownBy_new (grownBy_new (grownBy_new (grownBy_new h.grown (Nat.le_succ _)) (Nat.le_succ _)) (Nat.le_succ _)) (Nat.le_succ _)⟩
end

section
variable {W w : World} {p : Nat} {key : ByteArray} {live : Cl} {gone : Int} {cols : List Co} {vc : Value}
theorem LeftIn.ext {W w w' : World} {p : Nat} (hE : Ext w w') (h : LeftIn W w p) : LeftIn W w' p := by
  obtain ⟨v, l, hv, hin⟩ := h
  exact ⟨v, l, hv.ext hE, hin⟩
theorem RowAL.ext {wr wx : World} (hE : Ext wr wx) (h : RowAL W w p key wr live gone cols vc) : RowAL W w p key wx live gone cols vc :=
  ⟨h.box.ext hE, h.res.ext hE, h.left.ext hE, grownBy_ext h.grown hE⟩
/-- What stays true in the round's region. -/
structure RC (W w : World) (p : Nat) (key : ByteArray) (wr : World) (live : Cl) (gone : Int) (cols : List Co) (vc : Value) (x : World) : Prop where
  al : RowAL W w p key x live gone cols vc
  own : x.ownsRow (w.heap.size + 2) 100 5 vc cols.length (coCells cols)
  size : wr.heap.size ≤ x.heap.size
theorem RC.ext {wr x y : World} (hE : Ext x y) (h : RC W w p key wr live gone cols vc x) : RC W w p key wr live gone cols vc y := ⟨h.al.ext hE, ownsRow_ext h.own hE, Nat.le_trans h.size hE.le⟩
def RE (p : Nat) (vc : Value) (j : Nat) (x y : World) : Prop := if j = 10 then x.grownBy y vc.ownBlock else x.grownBy y (some p)
theorem RE_ext {p : Nat} {vc : Value} {j : Nat} {x y : World} (h : Ext x y) : RE p vc j x y := by
  unfold RE
  split <;> exact grownBy_ext (grownBy_refl x _) h
theorem RE_box {wr x y : World} (hpl : p < w.heap.size) (hws : w.heap.size ≤ wr.heap.size) (hown : wr.ownsRow (w.heap.size + 2) 100 5 vc cols.length (coCells cols)) {j : Nat} (h : RE p vc j x y) {b : Nat} (hb : wr.heap.size ≤ b) {cs : Array Value} {e : TypeId} (hx : BoxAt x b cs e) : BoxAt y b cs e := by
  unfold RE at h
  split at h
  · exact hx.grown h (fun e => by have := (hown.lt _ e.symm).2; omega)
  · exact hx.grown h (fun e => by have := Option.some.inj e; omega)
theorem RE_own {x y : World} (hpl : p < w.heap.size) {j : Nat} (hj : j ≠ 10) (h : RE p vc j x y) {v : Value} {m : Nat} {xs : List Value} (hx : x.ownsRow (w.heap.size + 2) 100 5 v m xs) : y.ownsRow (w.heap.size + 2) 100 5 v m xs := by
  unfold RE at h
  rw [if_neg hj] at h
  refine hx.kept h ?_
  cases e : v.ownBlock with
  | none => exact .inl rfl
  | some g => exact .inr (fun h => by have := (hx.lt g e).1; have := Option.some.inj h; omega)
end
theorem nm4_get (k : Nat) (h : k < 4) : nm4[k]? = some (.string (nmK k)) := by
  obtain rfl | rfl | rfl | rfl : k = 0 ∨ k = 1 ∨ k = 2 ∨ k = 3 := by omega
  all_goals rfl
theorem ownsRow_shape {w : World} {B : Nat} {e : TypeId} {size : Nat} {v : Value} {n : Nat} {xs : List Value} (h : w.ownsRow B e size v n xs) : ∃ a c, v = .slice a n c := by
  obtain ⟨a, c, h, _⟩ := SliceIn.of_owns h
  exact ⟨a, c, h⟩

set_option maxRecDepth 100000 in
set_option maxHeartbeats 8000000 in
theorem lrow_any (W : World) (p : Nat) (hp : W.heap.size ≤ p) (key : ByteArray) (w : World) (hW : Ext W w) (hL : LeftIn W w p) :
    Calls Tryd.prog 34 #[.pointer (some ⟨p, 0, none⟩), .string key] w fun e w' => ∃ (r : Ro) (vc : Value), e = .returned (.agg #[.string r.key, .string r.live.val, .bool r.live.dead, .int .i64 r.live.at_, .int .i64 r.live.fin, .int .i64 r.gone, .int .i64 r.shade, vc]) ∧ r.key = key ∧ GenRow r ∧ w'.ownsRow w.heap.size 100 5 vc r.cols.length (coCells r.cols) ∧ w.grownBy w' (some p) ∧ LeftIn W w' p := by
  have hpl : p < w.heap.size := by obtain ⟨v, l, hv, _⟩ := hL; exact hv.lt
  obtain ⟨a0, a1, hE0⟩ := boxes2 w (ro8 ⟨⟨#[]⟩, zeroCl, 0, 0, []⟩ (.slice none 0 0)) (ro8 ⟨key, zeroCl, 0, 0, []⟩ (.slice none 0 0)) 88 88
  have hL0 : LeftIn W ((w.alloc (.cells (ro8 ⟨⟨#[]⟩, zeroCl, 0, 0, []⟩ (.slice none 0 0)) 88)).alloc (.cells (ro8 ⟨key, zeroCl, 0, 0, []⟩ (.slice none 0 0)) 88)) p := by
    obtain ⟨v, l, hv, hin⟩ := hL
    exact ⟨v, l, hv.ext hE0, hin⟩
  go_enter Tryd.func34, Tryd.ntmps34
  go_wp2_with fail
  refine (next_ex W p hp _ (hW.trans hE0) hL0).mono ?_
  rintro e w1 ⟨N, N0, N1, rfl, hg, hL1⟩
  have H : RowAL W w p key w1 zeroCl 0 [] (.slice none 0 0) := ⟨a1.grown hg (by simp; omega), a0.grown hg (by simp; omega), hL1, ext_grownBy hE0 hg⟩
  clear hE0 hL0 hg hL hL1 a0 a1
  have x1 := H.box.cell 1
  have x2 := H.box.cell 2
  have x3 := H.box.cell 3
  have x4 := H.box.cell 4
  have x5 := H.box.cell 5
  have xf := H.box.free
  simp [ro8, zeroCl] at x1 x2 x3 x4 x5
  have n1 : 0 ≤ N / 3 % 7 ∧ N / 3 % 7 < 7 := by omega
  have n2 : 0 ≤ N / 84 % 10 ∧ N / 84 % 10 < 10 := by omega
  have n3 : 0 ≤ N / 3360 % 8 ∧ N / 3360 % 8 < 8 := by omega
  have HL1 : ∀ (live : Cl), live = zeroCl ∨ live = ⟨⟨#[]⟩, false, 1 + N / 3 % 7, 0⟩ ∨ live = ⟨⟨#[]⟩, false, 1 + N / 3 % 7, 1 + N / 84 % 10⟩ → GenLive live := by
    rintro live (rfl | rfl | rfl)
    · exact ⟨rfl, rfl, .inl ⟨rfl, rfl⟩⟩
    · exact ⟨rfl, rfl, .inr ⟨by show 1 ≤ 1 + N / 3 % 7; omega, by show 1 + N / 3 % 7 ≤ 7; omega, Int.le_refl 0, by show (0 : Int) ≤ 10; omega⟩⟩
    · exact ⟨rfl, rfl, .inr ⟨by show 1 ≤ 1 + N / 3 % 7; omega, by show 1 + N / 3 % 7 ≤ 7; omega, by show 0 ≤ 1 + N / 84 % 10; omega, by show 1 + N / 84 % 10 ≤ 10; omega⟩⟩
  have HLV := Lib.hid HL1
  clear HL1
  have G3 : Hid (0 ≤ N / 3360 % 8 ∧ N / 3360 % 8 ≤ 7) := ⟨n3.1, by omega⟩
  by_cases k1 : 0 < N % 3
  · by_cases k2 : N / 21 % 4 = 0
    · by_cases k3 : N / 840 % 4 = 0
      · go_wp2_with fail
        clear x1 x2 x3 x4 x5 xf k1 k3
        go_loopw [7] (fun i wr => ∃ (k : Nat) (live : Cl) (gone : Int) (cols : List Co) (vc : Value), k ≤ 4 ∧ i = .int .i64 k ∧ GenLive live ∧ (0 ≤ gone ∧ gone ≤ 7) ∧ GenCols k cols ∧ RowAL W w p key wr live gone cols vc ∧ wr.ownsRow (w.heap.size + 2) 100 5 vc cols.length (coCells cols)) (fun i _ => 4 - (intOf i).toNat)
        case atStart => exact ⟨0, ⟨⟨#[]⟩, false, 1 + N / 3 % 7, 1 + N / 84 % 10⟩, (N / 3360 % 8), [], .slice none 0 0, Nat.zero_le _, rfl, HLV.out _ (.inr (.inr rfl)), G3.out, GenCols.nil, (((H.live4 (c := ⟨⟨#[]⟩, false, 1 + N / 3 % 7, 0⟩) hpl).fin hpl).gone' hpl), World.ownsRow_nil _ _ _ _⟩
        case round =>
          obtain ⟨k, live, gone, cols, vc, hk, rfl, hgl, hgo, hgc, hal, hown⟩ := hrel
          by_cases hlt : k < 4
          · have hw10 : IntKind.i64.wrap (10 + (k : Int)) = 10 + (k : Int) := by rw [IntKind.wrap_i64]; omega
            have hlen := hgc.len
            have hwsz : w.heap.size ≤ wr.heap.size := hal.grown.size
            go_wp2_with fail
            · have hk4 : decide ((k : Int) < 4) = true := decide_eq_true (by omega)
              refine wp_region_relE (RC W w p key wr live gone cols vc) (RE p vc) (Tab.atE [(1, fun v _ => v = vc), (2, fun v x => ∃ b, v = .slice (some ⟨b, 0, none⟩) 4 4 ∧ wr.heap.size ≤ b ∧ BoxAt x b nm4 9), (5, fun v _ => v = .string (nmK k)), (7, fun v _ => ∃ n : Int, 0 ≤ n ∧ v = (.agg #[.string (cellN n).val, .bool (cellN n).dead, .int .i64 (cellN n).at_, .int .i64 (cellN n).fin])), (9, fun v x => ∃ (b : Nat) (n : Int), 0 ≤ n ∧ v = .slice (some ⟨b, 0, none⟩) 1 1 ∧ wr.heap.size ≤ b ∧ BoxAt x b (co5 ⟨nmK k, cellN n⟩) 100), (10, fun v x => ∃ n : Int, 0 ≤ n ∧ x.ownsRow (w.heap.size + 2) 100 5 v (cols.length + 1) (coCells (cols ++ [⟨nmK k, cellN n⟩])))])
                (Tab.staysE ⟨fun _ _ _ _ _ _ h => h, fun j _ v x y hR ⟨b, e, hb, hx⟩ => ⟨b, e, hb, RE_box hpl hwsz hown hR hb hx⟩, fun _ _ _ _ _ _ h => h, fun _ _ _ _ _ _ h => h, fun j _ v x y hR ⟨b, n, h0, e, hb, hx⟩ => ⟨b, n, h0, e, hb, RE_box hpl hwsz hown hR hb hx⟩, fun j hj v x y hR ⟨n, h0, hx⟩ => ⟨n, h0, RE_own hpl hj hR hx⟩, trivial⟩)
                12 (by kernel_rfl) (by kernel_rfl) (by kernel_rfl) ((⟨hal, hown, Nat.le_refl _⟩ : RC W w p key wr live gone cols vc wr).ext (Ext.refl wr).drew) ?_
              refine relE_quiet rfl rfl rfl rfl ?_; intro K hK; go_big_quiet_op; (first | refine ⟨_, fun _ _ => rfl, hK _ ?_⟩ | refine hK _ ?_); clear hK K
              refine relE_val [] rfl rfl rfl (by kernel_rfl) (fun x hx hf => ?_) ?_
              · have c7 := hx.al.box.cell 7
                simp [ro8] at c7
                go_simp
                exact ⟨hx, RE_ext (Ext.refl x), rfl⟩
              simp only [Act.put, List.setIfInBounds_toArray, List.set_cons_zero, List.set_cons_succ]
              refine relE_fact [] rfl rfl rfl (by kernel_rfl) (fun x hx hf => ?_) (fun v2 x2 hC2 hG2 h2 => ?_)
              · go_simp
                exact (names_any x).mono fun e y ⟨he, hy⟩ => ⟨_, he, hx.ext (hy ▸ (Ext.refl x).alloc _), RE_ext (hy ▸ (Ext.refl x).alloc _), _, rfl, hx.size, hy ▸ BoxAt.made x _ _⟩
              obtain ⟨b2, rfl, hb2, _⟩ := h2
              have HB2 := Lib.hid hb2
              clear hC2 hG2 hb2
              simp only [Act.put, List.setIfInBounds_toArray, List.set_cons_zero, List.set_cons_succ]
              refine relE_quiet rfl rfl rfl rfl ?_; intro K hK; go_big_quiet_op; (first | refine ⟨_, fun _ _ => rfl, hK _ ?_⟩ | refine hK _ ?_); clear hK K
              refine relE_quiet rfl rfl rfl rfl ?_; intro K hK; go_big_quiet_op; (first | refine ⟨_, fun _ _ => rfl, hK _ ?_⟩ | refine hK _ ?_); clear hK K
              refine relE_val [2] rfl rfl rfl (by kernel_rfl) (fun x hx hf => ?_) ?_
              · obtain ⟨b, e, _, hbox⟩ := (hf 2 (by simp)).2 rfl
                cases e
                have c7 := (hbox.cell k).trans (nm4_get k hlt)
                go_simp
                exact ⟨hx, RE_ext (Ext.refl x), rfl⟩
              simp only [Act.put, List.setIfInBounds_toArray, List.set_cons_zero, List.set_cons_succ]
              refine relE_quiet rfl rfl rfl rfl ?_; intro K hK; go_big_quiet_op; (first | refine ⟨_, fun _ _ => rfl, hK _ ?_⟩ | refine hK _ ?_); clear hK K
              refine relE_fact [] rfl rfl rfl (by kernel_rfl) (fun x hx hf => ?_) (fun v7 x7 hC7 hG7 h7 => ?_)
              · go_simp
                exact (lcell_ex W p hp x (hW.grown hx.al.grown (fun q hq => by cases hq; exact hp)) hx.al.left).mono fun e y ⟨n, h0, he, hg, hl⟩ => ⟨_, he, ⟨⟨hx.al.box.grown hg (by simp; omega), hx.al.res.grown hg (by simp; omega), hl, grownBy_trans hx.al.grown hg⟩, RE_own (vc := vc) (j := 7) hpl (by decide) (by unfold RE; rw [if_neg (by decide)]; exact hg) hx.own, Nat.le_trans hx.size hg.size⟩, by unfold RE; rw [if_neg (by decide)]; exact hg, n, h0, rfl⟩
              obtain ⟨n7, hn7, rfl⟩ := h7
              clear hC7 hG7
              simp only [Act.put, List.setIfInBounds_toArray, List.set_cons_zero, List.set_cons_succ]
              refine relE_quiet rfl rfl rfl rfl ?_; intro K hK; go_big_quiet_op; (first | refine ⟨_, fun _ _ => rfl, hK _ ?_⟩ | refine hK _ ?_); clear hK K
              refine relE_fact [] rfl rfl rfl (by kernel_rfl) (fun x hx hf => ?_) (fun v9 x9 hC9 hG9 h9 => ?_)
              · go_simp
                exact ⟨hx.ext ((Ext.refl x).alloc _), RE_ext ((Ext.refl x).alloc _), _, n7, hn7, rfl, hx.size, BoxAt.made x _ _⟩
              obtain ⟨b9, n9, hn9, rfl, hb9, _⟩ := h9
              have HB9 := Lib.hid hb9
              clear hC9 hG9 hb9
              simp only [Act.put, List.setIfInBounds_toArray, List.set_cons_zero, List.set_cons_succ]
              refine relE_fact [9] rfl rfl rfl (by kernel_rfl) (fun x hx hf => ?_) (fun v10 x10 hC10 hG10 h10 => ?_)
              · obtain ⟨b, n, h0, e, _, hbox⟩ := (hf 9 (by simp)).2 rfl
                cases e
                refine yields_append info_Col und_Cols rfl (by decide) (.tmp 51) (.tmp 59) rfl (w.heap.size + 2) (by have := hx.al.box.lt; omega) vc cols.length (coCells cols) hx.own (by rfl) b9 1 1 (co5 ⟨nmK k, cellN n⟩).toList (by rfl) (by rfl) (fun j u hj => by rw [hbox.cell j]; simpa using hj) (by simp [co5, Value.oneCell']) (by unfold maxLen; omega) (by omega) ?_
                intro v' y hown' hg hkeep
                have hne : ∀ q, some q = vc.ownBlock → w.heap.size + 2 ≤ q := fun q hq => (hx.own.lt q hq.symm).1
                refine ⟨⟨⟨hx.al.box.grown hg (fun e => by have := hne _ e; omega), hx.al.res.grown hg (fun e => by have := hne _ e; omega), ?_, ?_⟩, ?_, Nat.le_trans hx.size hg.size⟩, by unfold RE; rw [if_pos rfl]; exact hg, n, h0, ?_⟩
                · obtain ⟨vl, l, hv, hin⟩ := hx.al.left
                  exact ⟨vl, l, hv.grown hg (fun e => by have := hne _ e; omega), hin⟩
                · refine ⟨hg.os.trans hx.al.grown.os, hg.tape.trans hx.al.grown.tape, hg.output.trans hx.al.grown.output, Nat.le_trans hx.al.grown.size hg.size, fun q hq hqp => (hg.block q (Nat.lt_of_lt_of_le hq hx.al.grown.size) (fun e => by have := hne _ e; omega)).trans (hx.al.grown.block q hq hqp)⟩
                · exact hkeep
                · rw [coCells_append]
                  exact hown'
              obtain ⟨n10, hn10, hown10⟩ := h10
              obtain ⟨a10, c10, rfl⟩ := ownsRow_shape hown10
              clear hC10 hG10 hown10
              simp only [Act.put, List.setIfInBounds_toArray, List.set_cons_zero, List.set_cons_succ]
              refine relE_quiet rfl rfl rfl rfl ?_; intro K hK; go_big_quiet_op; (first | refine ⟨_, fun _ _ => rfl, hK _ ?_⟩ | refine hK _ ?_); clear hK K
              refine relE_tail rfl rfl fun x hx hG => ?_
              obtain ⟨n, hn, hown'⟩ := (hG 10).2 rfl
              clear hG
              have c7 := hx.al.box.cell 7
              have f7 := hx.al.box.free 7
              simp [ro8] at c7
              go_wp2_with fail
              go_roundw
              case rel =>
                refine ⟨k + 1, live, gone, cols ++ [⟨nmK k, cellN n⟩], _, by omega, by go_num, hgl, hgo, hgc.put hn, ⟨hx.al.box.set 7 _, hx.al.res.other (by omega) 7 _, hx.al.left.other (by omega), grownBy_new hx.al.grown (Nat.le_succ _)⟩, ?_⟩
                rw [List.length_append]
                exact ownsRow_setCell_below hown' (a := ⟨w.heap.size + 1, 7, none⟩) (by show w.heap.size + 1 < w.heap.size + 2; omega) _
              case measure => simp [intOf] <;> omega
            · go_roundw
              case rel => exact ⟨k + 1, live, gone, cols, vc, by omega, by go_num, hgl, hgo, hgc.skip, hal, hown⟩
              case measure => simp [intOf] <;> omega
          · obtain rfl : k = 4 := by omega
            have y : ∀ i, wr.cell? ⟨w.heap.size + 1, i, none⟩ = (ro8 ⟨key, live, gone, 0, cols⟩ vc)[i]? := fun i => hal.box.cell i
            have hres := hal.res
            obtain ⟨av, cv, rfl⟩ := ownsRow_shape hown
            go_wp2_with ((guard_target =~ wpList _ _ _ (Oper.mk none (Op.store _ (Operand.tmp 4) (Operand.tmp 62)) _ _ _ _ :: _) _ _); go_must (refine storeBox rfl 88 (.tmp 4) (.tmp 62) rfl (w.heap.size) _ _ _ (by rfl) (by rfl) (hres) (by kernel_rfl) (by rfl) (by simp [Value.oneCell']) ?_); intro w3 c3 g3)
            have hoK : w3.ownsRow (w.heap.size + 2) 100 5 (.slice av cols.length cv) cols.length (coCells cols) := hown.kept g3 (by
              cases e : Value.ownBlock (.slice av cols.length cv) with
              | none => exact .inl rfl
              | some q => exact .inr (fun h => by have := (hown.lt q e).1; have := Option.some.inj h; omega))
            have hleft : LeftIn W w3 p := by
              obtain ⟨vl, l, hv, hin⟩ := hal.left
              exact ⟨vl, l, hv.grown g3 (fun e => by have := Option.some.inj e; omega), hin⟩
            have hgr : w.grownBy w3 (some p) := ⟨g3.os.trans hal.grown.os, g3.tape.trans hal.grown.tape, g3.output.trans hal.grown.output, Nat.le_trans hal.grown.size g3.size, fun q hq hqp => (g3.block q (Nat.lt_of_lt_of_le hq hal.grown.size) (fun e => by have := Option.some.inj e; omega)).trans (hal.grown.block q hq hqp)⟩
            clear y hres hal hown g3
            have z0 := c3.cell 0
            have z1 := c3.cell 1
            have z2 := c3.cell 2
            have z3 := c3.cell 3
            have z4 := c3.cell 4
            have z5 := c3.cell 5
            have z6 := c3.cell 6
            have z7 := c3.cell 7
            simp at z0 z1 z2 z3 z4 z5 z6 z7
            refine bodyPost_ret (v := .agg #[.string key, .string live.val, .bool live.dead, .int .i64 live.at_, .int .i64 live.fin, .int .i64 gone, .int .i64 0, .slice av cols.length cv]) ?_ rfl ⟨⟨key, live, gone, 0, cols⟩, _, rfl, rfl, ⟨hgl, hgo, rfl, hgc⟩, ownsRow_base hoK (by omega), hgr, hleft⟩
            simp [results, Tryd.results34, go_sem, Act.put, z0, z1, z2, z3, z4, z5, z6, z7]
      · go_wp2_with fail
        clear x1 x2 x3 x4 x5 xf k1 k3
        go_loopw [7] (fun i wr => ∃ (k : Nat) (live : Cl) (gone : Int) (cols : List Co) (vc : Value), k ≤ 4 ∧ i = .int .i64 k ∧ GenLive live ∧ (0 ≤ gone ∧ gone ≤ 7) ∧ GenCols k cols ∧ RowAL W w p key wr live gone cols vc ∧ wr.ownsRow (w.heap.size + 2) 100 5 vc cols.length (coCells cols)) (fun i _ => 4 - (intOf i).toNat)
        case atStart => exact ⟨0, ⟨⟨#[]⟩, false, 1 + N / 3 % 7, 1 + N / 84 % 10⟩, 0, [], .slice none 0 0, Nat.zero_le _, rfl, HLV.out _ (.inr (.inr rfl)), ⟨Int.le_refl 0, by decide⟩, GenCols.nil, ((H.live4 (c := ⟨⟨#[]⟩, false, 1 + N / 3 % 7, 0⟩) hpl).fin hpl), World.ownsRow_nil _ _ _ _⟩
        case round =>
          obtain ⟨k, live, gone, cols, vc, hk, rfl, hgl, hgo, hgc, hal, hown⟩ := hrel
          by_cases hlt : k < 4
          · have hw10 : IntKind.i64.wrap (10 + (k : Int)) = 10 + (k : Int) := by rw [IntKind.wrap_i64]; omega
            have hlen := hgc.len
            have hwsz : w.heap.size ≤ wr.heap.size := hal.grown.size
            go_wp2_with fail
            · have hk4 : decide ((k : Int) < 4) = true := decide_eq_true (by omega)
              refine wp_region_relE (RC W w p key wr live gone cols vc) (RE p vc) (Tab.atE [(1, fun v _ => v = vc), (2, fun v x => ∃ b, v = .slice (some ⟨b, 0, none⟩) 4 4 ∧ wr.heap.size ≤ b ∧ BoxAt x b nm4 9), (5, fun v _ => v = .string (nmK k)), (7, fun v _ => ∃ n : Int, 0 ≤ n ∧ v = (.agg #[.string (cellN n).val, .bool (cellN n).dead, .int .i64 (cellN n).at_, .int .i64 (cellN n).fin])), (9, fun v x => ∃ (b : Nat) (n : Int), 0 ≤ n ∧ v = .slice (some ⟨b, 0, none⟩) 1 1 ∧ wr.heap.size ≤ b ∧ BoxAt x b (co5 ⟨nmK k, cellN n⟩) 100), (10, fun v x => ∃ n : Int, 0 ≤ n ∧ x.ownsRow (w.heap.size + 2) 100 5 v (cols.length + 1) (coCells (cols ++ [⟨nmK k, cellN n⟩])))])
                (Tab.staysE ⟨fun _ _ _ _ _ _ h => h, fun j _ v x y hR ⟨b, e, hb, hx⟩ => ⟨b, e, hb, RE_box hpl hwsz hown hR hb hx⟩, fun _ _ _ _ _ _ h => h, fun _ _ _ _ _ _ h => h, fun j _ v x y hR ⟨b, n, h0, e, hb, hx⟩ => ⟨b, n, h0, e, hb, RE_box hpl hwsz hown hR hb hx⟩, fun j hj v x y hR ⟨n, h0, hx⟩ => ⟨n, h0, RE_own hpl hj hR hx⟩, trivial⟩)
                12 (by kernel_rfl) (by kernel_rfl) (by kernel_rfl) ((⟨hal, hown, Nat.le_refl _⟩ : RC W w p key wr live gone cols vc wr).ext (Ext.refl wr).drew) ?_
              refine relE_quiet rfl rfl rfl rfl ?_; intro K hK; go_big_quiet_op; (first | refine ⟨_, fun _ _ => rfl, hK _ ?_⟩ | refine hK _ ?_); clear hK K
              refine relE_val [] rfl rfl rfl (by kernel_rfl) (fun x hx hf => ?_) ?_
              · have c7 := hx.al.box.cell 7
                simp [ro8] at c7
                go_simp
                exact ⟨hx, RE_ext (Ext.refl x), rfl⟩
              simp only [Act.put, List.setIfInBounds_toArray, List.set_cons_zero, List.set_cons_succ]
              refine relE_fact [] rfl rfl rfl (by kernel_rfl) (fun x hx hf => ?_) (fun v2 x2 hC2 hG2 h2 => ?_)
              · go_simp
                exact (names_any x).mono fun e y ⟨he, hy⟩ => ⟨_, he, hx.ext (hy ▸ (Ext.refl x).alloc _), RE_ext (hy ▸ (Ext.refl x).alloc _), _, rfl, hx.size, hy ▸ BoxAt.made x _ _⟩
              obtain ⟨b2, rfl, hb2, _⟩ := h2
              have HB2 := Lib.hid hb2
              clear hC2 hG2 hb2
              simp only [Act.put, List.setIfInBounds_toArray, List.set_cons_zero, List.set_cons_succ]
              refine relE_quiet rfl rfl rfl rfl ?_; intro K hK; go_big_quiet_op; (first | refine ⟨_, fun _ _ => rfl, hK _ ?_⟩ | refine hK _ ?_); clear hK K
              refine relE_quiet rfl rfl rfl rfl ?_; intro K hK; go_big_quiet_op; (first | refine ⟨_, fun _ _ => rfl, hK _ ?_⟩ | refine hK _ ?_); clear hK K
              refine relE_val [2] rfl rfl rfl (by kernel_rfl) (fun x hx hf => ?_) ?_
              · obtain ⟨b, e, _, hbox⟩ := (hf 2 (by simp)).2 rfl
                cases e
                have c7 := (hbox.cell k).trans (nm4_get k hlt)
                go_simp
                exact ⟨hx, RE_ext (Ext.refl x), rfl⟩
              simp only [Act.put, List.setIfInBounds_toArray, List.set_cons_zero, List.set_cons_succ]
              refine relE_quiet rfl rfl rfl rfl ?_; intro K hK; go_big_quiet_op; (first | refine ⟨_, fun _ _ => rfl, hK _ ?_⟩ | refine hK _ ?_); clear hK K
              refine relE_fact [] rfl rfl rfl (by kernel_rfl) (fun x hx hf => ?_) (fun v7 x7 hC7 hG7 h7 => ?_)
              · go_simp
                exact (lcell_ex W p hp x (hW.grown hx.al.grown (fun q hq => by cases hq; exact hp)) hx.al.left).mono fun e y ⟨n, h0, he, hg, hl⟩ => ⟨_, he, ⟨⟨hx.al.box.grown hg (by simp; omega), hx.al.res.grown hg (by simp; omega), hl, grownBy_trans hx.al.grown hg⟩, RE_own (vc := vc) (j := 7) hpl (by decide) (by unfold RE; rw [if_neg (by decide)]; exact hg) hx.own, Nat.le_trans hx.size hg.size⟩, by unfold RE; rw [if_neg (by decide)]; exact hg, n, h0, rfl⟩
              obtain ⟨n7, hn7, rfl⟩ := h7
              clear hC7 hG7
              simp only [Act.put, List.setIfInBounds_toArray, List.set_cons_zero, List.set_cons_succ]
              refine relE_quiet rfl rfl rfl rfl ?_; intro K hK; go_big_quiet_op; (first | refine ⟨_, fun _ _ => rfl, hK _ ?_⟩ | refine hK _ ?_); clear hK K
              refine relE_fact [] rfl rfl rfl (by kernel_rfl) (fun x hx hf => ?_) (fun v9 x9 hC9 hG9 h9 => ?_)
              · go_simp
                exact ⟨hx.ext ((Ext.refl x).alloc _), RE_ext ((Ext.refl x).alloc _), _, n7, hn7, rfl, hx.size, BoxAt.made x _ _⟩
              obtain ⟨b9, n9, hn9, rfl, hb9, _⟩ := h9
              have HB9 := Lib.hid hb9
              clear hC9 hG9 hb9
              simp only [Act.put, List.setIfInBounds_toArray, List.set_cons_zero, List.set_cons_succ]
              refine relE_fact [9] rfl rfl rfl (by kernel_rfl) (fun x hx hf => ?_) (fun v10 x10 hC10 hG10 h10 => ?_)
              · obtain ⟨b, n, h0, e, _, hbox⟩ := (hf 9 (by simp)).2 rfl
                cases e
                refine yields_append info_Col und_Cols rfl (by decide) (.tmp 51) (.tmp 59) rfl (w.heap.size + 2) (by have := hx.al.box.lt; omega) vc cols.length (coCells cols) hx.own (by rfl) b9 1 1 (co5 ⟨nmK k, cellN n⟩).toList (by rfl) (by rfl) (fun j u hj => by rw [hbox.cell j]; simpa using hj) (by simp [co5, Value.oneCell']) (by unfold maxLen; omega) (by omega) ?_
                intro v' y hown' hg hkeep
                have hne : ∀ q, some q = vc.ownBlock → w.heap.size + 2 ≤ q := fun q hq => (hx.own.lt q hq.symm).1
                refine ⟨⟨⟨hx.al.box.grown hg (fun e => by have := hne _ e; omega), hx.al.res.grown hg (fun e => by have := hne _ e; omega), ?_, ?_⟩, ?_, Nat.le_trans hx.size hg.size⟩, by unfold RE; rw [if_pos rfl]; exact hg, n, h0, ?_⟩
                · obtain ⟨vl, l, hv, hin⟩ := hx.al.left
                  exact ⟨vl, l, hv.grown hg (fun e => by have := hne _ e; omega), hin⟩
                · refine ⟨hg.os.trans hx.al.grown.os, hg.tape.trans hx.al.grown.tape, hg.output.trans hx.al.grown.output, Nat.le_trans hx.al.grown.size hg.size, fun q hq hqp => (hg.block q (Nat.lt_of_lt_of_le hq hx.al.grown.size) (fun e => by have := hne _ e; omega)).trans (hx.al.grown.block q hq hqp)⟩
                · exact hkeep
                · rw [coCells_append]
                  exact hown'
              obtain ⟨n10, hn10, hown10⟩ := h10
              obtain ⟨a10, c10, rfl⟩ := ownsRow_shape hown10
              clear hC10 hG10 hown10
              simp only [Act.put, List.setIfInBounds_toArray, List.set_cons_zero, List.set_cons_succ]
              refine relE_quiet rfl rfl rfl rfl ?_; intro K hK; go_big_quiet_op; (first | refine ⟨_, fun _ _ => rfl, hK _ ?_⟩ | refine hK _ ?_); clear hK K
              refine relE_tail rfl rfl fun x hx hG => ?_
              obtain ⟨n, hn, hown'⟩ := (hG 10).2 rfl
              clear hG
              have c7 := hx.al.box.cell 7
              have f7 := hx.al.box.free 7
              simp [ro8] at c7
              go_wp2_with fail
              go_roundw
              case rel =>
                refine ⟨k + 1, live, gone, cols ++ [⟨nmK k, cellN n⟩], _, by omega, by go_num, hgl, hgo, hgc.put hn, ⟨hx.al.box.set 7 _, hx.al.res.other (by omega) 7 _, hx.al.left.other (by omega), grownBy_new hx.al.grown (Nat.le_succ _)⟩, ?_⟩
                rw [List.length_append]
                exact ownsRow_setCell_below hown' (a := ⟨w.heap.size + 1, 7, none⟩) (by show w.heap.size + 1 < w.heap.size + 2; omega) _
              case measure => simp [intOf] <;> omega
            · go_roundw
              case rel => exact ⟨k + 1, live, gone, cols, vc, by omega, by go_num, hgl, hgo, hgc.skip, hal, hown⟩
              case measure => simp [intOf] <;> omega
          · obtain rfl : k = 4 := by omega
            have y : ∀ i, wr.cell? ⟨w.heap.size + 1, i, none⟩ = (ro8 ⟨key, live, gone, 0, cols⟩ vc)[i]? := fun i => hal.box.cell i
            have hres := hal.res
            obtain ⟨av, cv, rfl⟩ := ownsRow_shape hown
            go_wp2_with ((guard_target =~ wpList _ _ _ (Oper.mk none (Op.store _ (Operand.tmp 4) (Operand.tmp 62)) _ _ _ _ :: _) _ _); go_must (refine storeBox rfl 88 (.tmp 4) (.tmp 62) rfl (w.heap.size) _ _ _ (by rfl) (by rfl) (hres) (by kernel_rfl) (by rfl) (by simp [Value.oneCell']) ?_); intro w3 c3 g3)
            have hoK : w3.ownsRow (w.heap.size + 2) 100 5 (.slice av cols.length cv) cols.length (coCells cols) := hown.kept g3 (by
              cases e : Value.ownBlock (.slice av cols.length cv) with
              | none => exact .inl rfl
              | some q => exact .inr (fun h => by have := (hown.lt q e).1; have := Option.some.inj h; omega))
            have hleft : LeftIn W w3 p := by
              obtain ⟨vl, l, hv, hin⟩ := hal.left
              exact ⟨vl, l, hv.grown g3 (fun e => by have := Option.some.inj e; omega), hin⟩
            have hgr : w.grownBy w3 (some p) := ⟨g3.os.trans hal.grown.os, g3.tape.trans hal.grown.tape, g3.output.trans hal.grown.output, Nat.le_trans hal.grown.size g3.size, fun q hq hqp => (g3.block q (Nat.lt_of_lt_of_le hq hal.grown.size) (fun e => by have := Option.some.inj e; omega)).trans (hal.grown.block q hq hqp)⟩
            clear y hres hal hown g3
            have z0 := c3.cell 0
            have z1 := c3.cell 1
            have z2 := c3.cell 2
            have z3 := c3.cell 3
            have z4 := c3.cell 4
            have z5 := c3.cell 5
            have z6 := c3.cell 6
            have z7 := c3.cell 7
            simp at z0 z1 z2 z3 z4 z5 z6 z7
            refine bodyPost_ret (v := .agg #[.string key, .string live.val, .bool live.dead, .int .i64 live.at_, .int .i64 live.fin, .int .i64 gone, .int .i64 0, .slice av cols.length cv]) ?_ rfl ⟨⟨key, live, gone, 0, cols⟩, _, rfl, rfl, ⟨hgl, hgo, rfl, hgc⟩, ownsRow_base hoK (by omega), hgr, hleft⟩
            simp [results, Tryd.results34, go_sem, Act.put, z0, z1, z2, z3, z4, z5, z6, z7]
    · by_cases k3 : N / 840 % 4 = 0
      · go_wp2_with fail
        clear x1 x2 x3 x4 x5 xf k1 k3
        go_loopw [7] (fun i wr => ∃ (k : Nat) (live : Cl) (gone : Int) (cols : List Co) (vc : Value), k ≤ 4 ∧ i = .int .i64 k ∧ GenLive live ∧ (0 ≤ gone ∧ gone ≤ 7) ∧ GenCols k cols ∧ RowAL W w p key wr live gone cols vc ∧ wr.ownsRow (w.heap.size + 2) 100 5 vc cols.length (coCells cols)) (fun i _ => 4 - (intOf i).toNat)
        case atStart => exact ⟨0, ⟨⟨#[]⟩, false, 1 + N / 3 % 7, 0⟩, (N / 3360 % 8), [], .slice none 0 0, Nat.zero_le _, rfl, HLV.out _ (.inr (.inl rfl)), G3.out, GenCols.nil, ((H.live4 (c := ⟨⟨#[]⟩, false, 1 + N / 3 % 7, 0⟩) hpl).gone' hpl), World.ownsRow_nil _ _ _ _⟩
        case round =>
          obtain ⟨k, live, gone, cols, vc, hk, rfl, hgl, hgo, hgc, hal, hown⟩ := hrel
          by_cases hlt : k < 4
          · have hw10 : IntKind.i64.wrap (10 + (k : Int)) = 10 + (k : Int) := by rw [IntKind.wrap_i64]; omega
            have hlen := hgc.len
            have hwsz : w.heap.size ≤ wr.heap.size := hal.grown.size
            go_wp2_with fail
            · have hk4 : decide ((k : Int) < 4) = true := decide_eq_true (by omega)
              refine wp_region_relE (RC W w p key wr live gone cols vc) (RE p vc) (Tab.atE [(1, fun v _ => v = vc), (2, fun v x => ∃ b, v = .slice (some ⟨b, 0, none⟩) 4 4 ∧ wr.heap.size ≤ b ∧ BoxAt x b nm4 9), (5, fun v _ => v = .string (nmK k)), (7, fun v _ => ∃ n : Int, 0 ≤ n ∧ v = (.agg #[.string (cellN n).val, .bool (cellN n).dead, .int .i64 (cellN n).at_, .int .i64 (cellN n).fin])), (9, fun v x => ∃ (b : Nat) (n : Int), 0 ≤ n ∧ v = .slice (some ⟨b, 0, none⟩) 1 1 ∧ wr.heap.size ≤ b ∧ BoxAt x b (co5 ⟨nmK k, cellN n⟩) 100), (10, fun v x => ∃ n : Int, 0 ≤ n ∧ x.ownsRow (w.heap.size + 2) 100 5 v (cols.length + 1) (coCells (cols ++ [⟨nmK k, cellN n⟩])))])
                (Tab.staysE ⟨fun _ _ _ _ _ _ h => h, fun j _ v x y hR ⟨b, e, hb, hx⟩ => ⟨b, e, hb, RE_box hpl hwsz hown hR hb hx⟩, fun _ _ _ _ _ _ h => h, fun _ _ _ _ _ _ h => h, fun j _ v x y hR ⟨b, n, h0, e, hb, hx⟩ => ⟨b, n, h0, e, hb, RE_box hpl hwsz hown hR hb hx⟩, fun j hj v x y hR ⟨n, h0, hx⟩ => ⟨n, h0, RE_own hpl hj hR hx⟩, trivial⟩)
                12 (by kernel_rfl) (by kernel_rfl) (by kernel_rfl) ((⟨hal, hown, Nat.le_refl _⟩ : RC W w p key wr live gone cols vc wr).ext (Ext.refl wr).drew) ?_
              refine relE_quiet rfl rfl rfl rfl ?_; intro K hK; go_big_quiet_op; (first | refine ⟨_, fun _ _ => rfl, hK _ ?_⟩ | refine hK _ ?_); clear hK K
              refine relE_val [] rfl rfl rfl (by kernel_rfl) (fun x hx hf => ?_) ?_
              · have c7 := hx.al.box.cell 7
                simp [ro8] at c7
                go_simp
                exact ⟨hx, RE_ext (Ext.refl x), rfl⟩
              simp only [Act.put, List.setIfInBounds_toArray, List.set_cons_zero, List.set_cons_succ]
              refine relE_fact [] rfl rfl rfl (by kernel_rfl) (fun x hx hf => ?_) (fun v2 x2 hC2 hG2 h2 => ?_)
              · go_simp
                exact (names_any x).mono fun e y ⟨he, hy⟩ => ⟨_, he, hx.ext (hy ▸ (Ext.refl x).alloc _), RE_ext (hy ▸ (Ext.refl x).alloc _), _, rfl, hx.size, hy ▸ BoxAt.made x _ _⟩
              obtain ⟨b2, rfl, hb2, _⟩ := h2
              have HB2 := Lib.hid hb2
              clear hC2 hG2 hb2
              simp only [Act.put, List.setIfInBounds_toArray, List.set_cons_zero, List.set_cons_succ]
              refine relE_quiet rfl rfl rfl rfl ?_; intro K hK; go_big_quiet_op; (first | refine ⟨_, fun _ _ => rfl, hK _ ?_⟩ | refine hK _ ?_); clear hK K
              refine relE_quiet rfl rfl rfl rfl ?_; intro K hK; go_big_quiet_op; (first | refine ⟨_, fun _ _ => rfl, hK _ ?_⟩ | refine hK _ ?_); clear hK K
              refine relE_val [2] rfl rfl rfl (by kernel_rfl) (fun x hx hf => ?_) ?_
              · obtain ⟨b, e, _, hbox⟩ := (hf 2 (by simp)).2 rfl
                cases e
                have c7 := (hbox.cell k).trans (nm4_get k hlt)
                go_simp
                exact ⟨hx, RE_ext (Ext.refl x), rfl⟩
              simp only [Act.put, List.setIfInBounds_toArray, List.set_cons_zero, List.set_cons_succ]
              refine relE_quiet rfl rfl rfl rfl ?_; intro K hK; go_big_quiet_op; (first | refine ⟨_, fun _ _ => rfl, hK _ ?_⟩ | refine hK _ ?_); clear hK K
              refine relE_fact [] rfl rfl rfl (by kernel_rfl) (fun x hx hf => ?_) (fun v7 x7 hC7 hG7 h7 => ?_)
              · go_simp
                exact (lcell_ex W p hp x (hW.grown hx.al.grown (fun q hq => by cases hq; exact hp)) hx.al.left).mono fun e y ⟨n, h0, he, hg, hl⟩ => ⟨_, he, ⟨⟨hx.al.box.grown hg (by simp; omega), hx.al.res.grown hg (by simp; omega), hl, grownBy_trans hx.al.grown hg⟩, RE_own (vc := vc) (j := 7) hpl (by decide) (by unfold RE; rw [if_neg (by decide)]; exact hg) hx.own, Nat.le_trans hx.size hg.size⟩, by unfold RE; rw [if_neg (by decide)]; exact hg, n, h0, rfl⟩
              obtain ⟨n7, hn7, rfl⟩ := h7
              clear hC7 hG7
              simp only [Act.put, List.setIfInBounds_toArray, List.set_cons_zero, List.set_cons_succ]
              refine relE_quiet rfl rfl rfl rfl ?_; intro K hK; go_big_quiet_op; (first | refine ⟨_, fun _ _ => rfl, hK _ ?_⟩ | refine hK _ ?_); clear hK K
              refine relE_fact [] rfl rfl rfl (by kernel_rfl) (fun x hx hf => ?_) (fun v9 x9 hC9 hG9 h9 => ?_)
              · go_simp
                exact ⟨hx.ext ((Ext.refl x).alloc _), RE_ext ((Ext.refl x).alloc _), _, n7, hn7, rfl, hx.size, BoxAt.made x _ _⟩
              obtain ⟨b9, n9, hn9, rfl, hb9, _⟩ := h9
              have HB9 := Lib.hid hb9
              clear hC9 hG9 hb9
              simp only [Act.put, List.setIfInBounds_toArray, List.set_cons_zero, List.set_cons_succ]
              refine relE_fact [9] rfl rfl rfl (by kernel_rfl) (fun x hx hf => ?_) (fun v10 x10 hC10 hG10 h10 => ?_)
              · obtain ⟨b, n, h0, e, _, hbox⟩ := (hf 9 (by simp)).2 rfl
                cases e
                refine yields_append info_Col und_Cols rfl (by decide) (.tmp 51) (.tmp 59) rfl (w.heap.size + 2) (by have := hx.al.box.lt; omega) vc cols.length (coCells cols) hx.own (by rfl) b9 1 1 (co5 ⟨nmK k, cellN n⟩).toList (by rfl) (by rfl) (fun j u hj => by rw [hbox.cell j]; simpa using hj) (by simp [co5, Value.oneCell']) (by unfold maxLen; omega) (by omega) ?_
                intro v' y hown' hg hkeep
                have hne : ∀ q, some q = vc.ownBlock → w.heap.size + 2 ≤ q := fun q hq => (hx.own.lt q hq.symm).1
                refine ⟨⟨⟨hx.al.box.grown hg (fun e => by have := hne _ e; omega), hx.al.res.grown hg (fun e => by have := hne _ e; omega), ?_, ?_⟩, ?_, Nat.le_trans hx.size hg.size⟩, by unfold RE; rw [if_pos rfl]; exact hg, n, h0, ?_⟩
                · obtain ⟨vl, l, hv, hin⟩ := hx.al.left
                  exact ⟨vl, l, hv.grown hg (fun e => by have := hne _ e; omega), hin⟩
                · refine ⟨hg.os.trans hx.al.grown.os, hg.tape.trans hx.al.grown.tape, hg.output.trans hx.al.grown.output, Nat.le_trans hx.al.grown.size hg.size, fun q hq hqp => (hg.block q (Nat.lt_of_lt_of_le hq hx.al.grown.size) (fun e => by have := hne _ e; omega)).trans (hx.al.grown.block q hq hqp)⟩
                · exact hkeep
                · rw [coCells_append]
                  exact hown'
              obtain ⟨n10, hn10, hown10⟩ := h10
              obtain ⟨a10, c10, rfl⟩ := ownsRow_shape hown10
              clear hC10 hG10 hown10
              simp only [Act.put, List.setIfInBounds_toArray, List.set_cons_zero, List.set_cons_succ]
              refine relE_quiet rfl rfl rfl rfl ?_; intro K hK; go_big_quiet_op; (first | refine ⟨_, fun _ _ => rfl, hK _ ?_⟩ | refine hK _ ?_); clear hK K
              refine relE_tail rfl rfl fun x hx hG => ?_
              obtain ⟨n, hn, hown'⟩ := (hG 10).2 rfl
              clear hG
              have c7 := hx.al.box.cell 7
              have f7 := hx.al.box.free 7
              simp [ro8] at c7
              go_wp2_with fail
              go_roundw
              case rel =>
                refine ⟨k + 1, live, gone, cols ++ [⟨nmK k, cellN n⟩], _, by omega, by go_num, hgl, hgo, hgc.put hn, ⟨hx.al.box.set 7 _, hx.al.res.other (by omega) 7 _, hx.al.left.other (by omega), grownBy_new hx.al.grown (Nat.le_succ _)⟩, ?_⟩
                rw [List.length_append]
                exact ownsRow_setCell_below hown' (a := ⟨w.heap.size + 1, 7, none⟩) (by show w.heap.size + 1 < w.heap.size + 2; omega) _
              case measure => simp [intOf] <;> omega
            · go_roundw
              case rel => exact ⟨k + 1, live, gone, cols, vc, by omega, by go_num, hgl, hgo, hgc.skip, hal, hown⟩
              case measure => simp [intOf] <;> omega
          · obtain rfl : k = 4 := by omega
            have y : ∀ i, wr.cell? ⟨w.heap.size + 1, i, none⟩ = (ro8 ⟨key, live, gone, 0, cols⟩ vc)[i]? := fun i => hal.box.cell i
            have hres := hal.res
            obtain ⟨av, cv, rfl⟩ := ownsRow_shape hown
            go_wp2_with ((guard_target =~ wpList _ _ _ (Oper.mk none (Op.store _ (Operand.tmp 4) (Operand.tmp 62)) _ _ _ _ :: _) _ _); go_must (refine storeBox rfl 88 (.tmp 4) (.tmp 62) rfl (w.heap.size) _ _ _ (by rfl) (by rfl) (hres) (by kernel_rfl) (by rfl) (by simp [Value.oneCell']) ?_); intro w3 c3 g3)
            have hoK : w3.ownsRow (w.heap.size + 2) 100 5 (.slice av cols.length cv) cols.length (coCells cols) := hown.kept g3 (by
              cases e : Value.ownBlock (.slice av cols.length cv) with
              | none => exact .inl rfl
              | some q => exact .inr (fun h => by have := (hown.lt q e).1; have := Option.some.inj h; omega))
            have hleft : LeftIn W w3 p := by
              obtain ⟨vl, l, hv, hin⟩ := hal.left
              exact ⟨vl, l, hv.grown g3 (fun e => by have := Option.some.inj e; omega), hin⟩
            have hgr : w.grownBy w3 (some p) := ⟨g3.os.trans hal.grown.os, g3.tape.trans hal.grown.tape, g3.output.trans hal.grown.output, Nat.le_trans hal.grown.size g3.size, fun q hq hqp => (g3.block q (Nat.lt_of_lt_of_le hq hal.grown.size) (fun e => by have := Option.some.inj e; omega)).trans (hal.grown.block q hq hqp)⟩
            clear y hres hal hown g3
            have z0 := c3.cell 0
            have z1 := c3.cell 1
            have z2 := c3.cell 2
            have z3 := c3.cell 3
            have z4 := c3.cell 4
            have z5 := c3.cell 5
            have z6 := c3.cell 6
            have z7 := c3.cell 7
            simp at z0 z1 z2 z3 z4 z5 z6 z7
            refine bodyPost_ret (v := .agg #[.string key, .string live.val, .bool live.dead, .int .i64 live.at_, .int .i64 live.fin, .int .i64 gone, .int .i64 0, .slice av cols.length cv]) ?_ rfl ⟨⟨key, live, gone, 0, cols⟩, _, rfl, rfl, ⟨hgl, hgo, rfl, hgc⟩, ownsRow_base hoK (by omega), hgr, hleft⟩
            simp [results, Tryd.results34, go_sem, Act.put, z0, z1, z2, z3, z4, z5, z6, z7]
      · go_wp2_with fail
        clear x1 x2 x3 x4 x5 xf k1 k3
        go_loopw [7] (fun i wr => ∃ (k : Nat) (live : Cl) (gone : Int) (cols : List Co) (vc : Value), k ≤ 4 ∧ i = .int .i64 k ∧ GenLive live ∧ (0 ≤ gone ∧ gone ≤ 7) ∧ GenCols k cols ∧ RowAL W w p key wr live gone cols vc ∧ wr.ownsRow (w.heap.size + 2) 100 5 vc cols.length (coCells cols)) (fun i _ => 4 - (intOf i).toNat)
        case atStart => exact ⟨0, ⟨⟨#[]⟩, false, 1 + N / 3 % 7, 0⟩, 0, [], .slice none 0 0, Nat.zero_le _, rfl, HLV.out _ (.inr (.inl rfl)), ⟨Int.le_refl 0, by decide⟩, GenCols.nil, (H.live4 (c := ⟨⟨#[]⟩, false, 1 + N / 3 % 7, 0⟩) hpl), World.ownsRow_nil _ _ _ _⟩
        case round =>
          obtain ⟨k, live, gone, cols, vc, hk, rfl, hgl, hgo, hgc, hal, hown⟩ := hrel
          by_cases hlt : k < 4
          · have hw10 : IntKind.i64.wrap (10 + (k : Int)) = 10 + (k : Int) := by rw [IntKind.wrap_i64]; omega
            have hlen := hgc.len
            have hwsz : w.heap.size ≤ wr.heap.size := hal.grown.size
            go_wp2_with fail
            · have hk4 : decide ((k : Int) < 4) = true := decide_eq_true (by omega)
              refine wp_region_relE (RC W w p key wr live gone cols vc) (RE p vc) (Tab.atE [(1, fun v _ => v = vc), (2, fun v x => ∃ b, v = .slice (some ⟨b, 0, none⟩) 4 4 ∧ wr.heap.size ≤ b ∧ BoxAt x b nm4 9), (5, fun v _ => v = .string (nmK k)), (7, fun v _ => ∃ n : Int, 0 ≤ n ∧ v = (.agg #[.string (cellN n).val, .bool (cellN n).dead, .int .i64 (cellN n).at_, .int .i64 (cellN n).fin])), (9, fun v x => ∃ (b : Nat) (n : Int), 0 ≤ n ∧ v = .slice (some ⟨b, 0, none⟩) 1 1 ∧ wr.heap.size ≤ b ∧ BoxAt x b (co5 ⟨nmK k, cellN n⟩) 100), (10, fun v x => ∃ n : Int, 0 ≤ n ∧ x.ownsRow (w.heap.size + 2) 100 5 v (cols.length + 1) (coCells (cols ++ [⟨nmK k, cellN n⟩])))])
                (Tab.staysE ⟨fun _ _ _ _ _ _ h => h, fun j _ v x y hR ⟨b, e, hb, hx⟩ => ⟨b, e, hb, RE_box hpl hwsz hown hR hb hx⟩, fun _ _ _ _ _ _ h => h, fun _ _ _ _ _ _ h => h, fun j _ v x y hR ⟨b, n, h0, e, hb, hx⟩ => ⟨b, n, h0, e, hb, RE_box hpl hwsz hown hR hb hx⟩, fun j hj v x y hR ⟨n, h0, hx⟩ => ⟨n, h0, RE_own hpl hj hR hx⟩, trivial⟩)
                12 (by kernel_rfl) (by kernel_rfl) (by kernel_rfl) ((⟨hal, hown, Nat.le_refl _⟩ : RC W w p key wr live gone cols vc wr).ext (Ext.refl wr).drew) ?_
              refine relE_quiet rfl rfl rfl rfl ?_; intro K hK; go_big_quiet_op; (first | refine ⟨_, fun _ _ => rfl, hK _ ?_⟩ | refine hK _ ?_); clear hK K
              refine relE_val [] rfl rfl rfl (by kernel_rfl) (fun x hx hf => ?_) ?_
              · have c7 := hx.al.box.cell 7
                simp [ro8] at c7
                go_simp
                exact ⟨hx, RE_ext (Ext.refl x), rfl⟩
              simp only [Act.put, List.setIfInBounds_toArray, List.set_cons_zero, List.set_cons_succ]
              refine relE_fact [] rfl rfl rfl (by kernel_rfl) (fun x hx hf => ?_) (fun v2 x2 hC2 hG2 h2 => ?_)
              · go_simp
                exact (names_any x).mono fun e y ⟨he, hy⟩ => ⟨_, he, hx.ext (hy ▸ (Ext.refl x).alloc _), RE_ext (hy ▸ (Ext.refl x).alloc _), _, rfl, hx.size, hy ▸ BoxAt.made x _ _⟩
              obtain ⟨b2, rfl, hb2, _⟩ := h2
              have HB2 := Lib.hid hb2
              clear hC2 hG2 hb2
              simp only [Act.put, List.setIfInBounds_toArray, List.set_cons_zero, List.set_cons_succ]
              refine relE_quiet rfl rfl rfl rfl ?_; intro K hK; go_big_quiet_op; (first | refine ⟨_, fun _ _ => rfl, hK _ ?_⟩ | refine hK _ ?_); clear hK K
              refine relE_quiet rfl rfl rfl rfl ?_; intro K hK; go_big_quiet_op; (first | refine ⟨_, fun _ _ => rfl, hK _ ?_⟩ | refine hK _ ?_); clear hK K
              refine relE_val [2] rfl rfl rfl (by kernel_rfl) (fun x hx hf => ?_) ?_
              · obtain ⟨b, e, _, hbox⟩ := (hf 2 (by simp)).2 rfl
                cases e
                have c7 := (hbox.cell k).trans (nm4_get k hlt)
                go_simp
                exact ⟨hx, RE_ext (Ext.refl x), rfl⟩
              simp only [Act.put, List.setIfInBounds_toArray, List.set_cons_zero, List.set_cons_succ]
              refine relE_quiet rfl rfl rfl rfl ?_; intro K hK; go_big_quiet_op; (first | refine ⟨_, fun _ _ => rfl, hK _ ?_⟩ | refine hK _ ?_); clear hK K
              refine relE_fact [] rfl rfl rfl (by kernel_rfl) (fun x hx hf => ?_) (fun v7 x7 hC7 hG7 h7 => ?_)
              · go_simp
                exact (lcell_ex W p hp x (hW.grown hx.al.grown (fun q hq => by cases hq; exact hp)) hx.al.left).mono fun e y ⟨n, h0, he, hg, hl⟩ => ⟨_, he, ⟨⟨hx.al.box.grown hg (by simp; omega), hx.al.res.grown hg (by simp; omega), hl, grownBy_trans hx.al.grown hg⟩, RE_own (vc := vc) (j := 7) hpl (by decide) (by unfold RE; rw [if_neg (by decide)]; exact hg) hx.own, Nat.le_trans hx.size hg.size⟩, by unfold RE; rw [if_neg (by decide)]; exact hg, n, h0, rfl⟩
              obtain ⟨n7, hn7, rfl⟩ := h7
              clear hC7 hG7
              simp only [Act.put, List.setIfInBounds_toArray, List.set_cons_zero, List.set_cons_succ]
              refine relE_quiet rfl rfl rfl rfl ?_; intro K hK; go_big_quiet_op; (first | refine ⟨_, fun _ _ => rfl, hK _ ?_⟩ | refine hK _ ?_); clear hK K
              refine relE_fact [] rfl rfl rfl (by kernel_rfl) (fun x hx hf => ?_) (fun v9 x9 hC9 hG9 h9 => ?_)
              · go_simp
                exact ⟨hx.ext ((Ext.refl x).alloc _), RE_ext ((Ext.refl x).alloc _), _, n7, hn7, rfl, hx.size, BoxAt.made x _ _⟩
              obtain ⟨b9, n9, hn9, rfl, hb9, _⟩ := h9
              have HB9 := Lib.hid hb9
              clear hC9 hG9 hb9
              simp only [Act.put, List.setIfInBounds_toArray, List.set_cons_zero, List.set_cons_succ]
              refine relE_fact [9] rfl rfl rfl (by kernel_rfl) (fun x hx hf => ?_) (fun v10 x10 hC10 hG10 h10 => ?_)
              · obtain ⟨b, n, h0, e, _, hbox⟩ := (hf 9 (by simp)).2 rfl
                cases e
                refine yields_append info_Col und_Cols rfl (by decide) (.tmp 51) (.tmp 59) rfl (w.heap.size + 2) (by have := hx.al.box.lt; omega) vc cols.length (coCells cols) hx.own (by rfl) b9 1 1 (co5 ⟨nmK k, cellN n⟩).toList (by rfl) (by rfl) (fun j u hj => by rw [hbox.cell j]; simpa using hj) (by simp [co5, Value.oneCell']) (by unfold maxLen; omega) (by omega) ?_
                intro v' y hown' hg hkeep
                have hne : ∀ q, some q = vc.ownBlock → w.heap.size + 2 ≤ q := fun q hq => (hx.own.lt q hq.symm).1
                refine ⟨⟨⟨hx.al.box.grown hg (fun e => by have := hne _ e; omega), hx.al.res.grown hg (fun e => by have := hne _ e; omega), ?_, ?_⟩, ?_, Nat.le_trans hx.size hg.size⟩, by unfold RE; rw [if_pos rfl]; exact hg, n, h0, ?_⟩
                · obtain ⟨vl, l, hv, hin⟩ := hx.al.left
                  exact ⟨vl, l, hv.grown hg (fun e => by have := hne _ e; omega), hin⟩
                · refine ⟨hg.os.trans hx.al.grown.os, hg.tape.trans hx.al.grown.tape, hg.output.trans hx.al.grown.output, Nat.le_trans hx.al.grown.size hg.size, fun q hq hqp => (hg.block q (Nat.lt_of_lt_of_le hq hx.al.grown.size) (fun e => by have := hne _ e; omega)).trans (hx.al.grown.block q hq hqp)⟩
                · exact hkeep
                · rw [coCells_append]
                  exact hown'
              obtain ⟨n10, hn10, hown10⟩ := h10
              obtain ⟨a10, c10, rfl⟩ := ownsRow_shape hown10
              clear hC10 hG10 hown10
              simp only [Act.put, List.setIfInBounds_toArray, List.set_cons_zero, List.set_cons_succ]
              refine relE_quiet rfl rfl rfl rfl ?_; intro K hK; go_big_quiet_op; (first | refine ⟨_, fun _ _ => rfl, hK _ ?_⟩ | refine hK _ ?_); clear hK K
              refine relE_tail rfl rfl fun x hx hG => ?_
              obtain ⟨n, hn, hown'⟩ := (hG 10).2 rfl
              clear hG
              have c7 := hx.al.box.cell 7
              have f7 := hx.al.box.free 7
              simp [ro8] at c7
              go_wp2_with fail
              go_roundw
              case rel =>
                refine ⟨k + 1, live, gone, cols ++ [⟨nmK k, cellN n⟩], _, by omega, by go_num, hgl, hgo, hgc.put hn, ⟨hx.al.box.set 7 _, hx.al.res.other (by omega) 7 _, hx.al.left.other (by omega), grownBy_new hx.al.grown (Nat.le_succ _)⟩, ?_⟩
                rw [List.length_append]
                exact ownsRow_setCell_below hown' (a := ⟨w.heap.size + 1, 7, none⟩) (by show w.heap.size + 1 < w.heap.size + 2; omega) _
              case measure => simp [intOf] <;> omega
            · go_roundw
              case rel => exact ⟨k + 1, live, gone, cols, vc, by omega, by go_num, hgl, hgo, hgc.skip, hal, hown⟩
              case measure => simp [intOf] <;> omega
          · obtain rfl : k = 4 := by omega
            have y : ∀ i, wr.cell? ⟨w.heap.size + 1, i, none⟩ = (ro8 ⟨key, live, gone, 0, cols⟩ vc)[i]? := fun i => hal.box.cell i
            have hres := hal.res
            obtain ⟨av, cv, rfl⟩ := ownsRow_shape hown
            go_wp2_with ((guard_target =~ wpList _ _ _ (Oper.mk none (Op.store _ (Operand.tmp 4) (Operand.tmp 62)) _ _ _ _ :: _) _ _); go_must (refine storeBox rfl 88 (.tmp 4) (.tmp 62) rfl (w.heap.size) _ _ _ (by rfl) (by rfl) (hres) (by kernel_rfl) (by rfl) (by simp [Value.oneCell']) ?_); intro w3 c3 g3)
            have hoK : w3.ownsRow (w.heap.size + 2) 100 5 (.slice av cols.length cv) cols.length (coCells cols) := hown.kept g3 (by
              cases e : Value.ownBlock (.slice av cols.length cv) with
              | none => exact .inl rfl
              | some q => exact .inr (fun h => by have := (hown.lt q e).1; have := Option.some.inj h; omega))
            have hleft : LeftIn W w3 p := by
              obtain ⟨vl, l, hv, hin⟩ := hal.left
              exact ⟨vl, l, hv.grown g3 (fun e => by have := Option.some.inj e; omega), hin⟩
            have hgr : w.grownBy w3 (some p) := ⟨g3.os.trans hal.grown.os, g3.tape.trans hal.grown.tape, g3.output.trans hal.grown.output, Nat.le_trans hal.grown.size g3.size, fun q hq hqp => (g3.block q (Nat.lt_of_lt_of_le hq hal.grown.size) (fun e => by have := Option.some.inj e; omega)).trans (hal.grown.block q hq hqp)⟩
            clear y hres hal hown g3
            have z0 := c3.cell 0
            have z1 := c3.cell 1
            have z2 := c3.cell 2
            have z3 := c3.cell 3
            have z4 := c3.cell 4
            have z5 := c3.cell 5
            have z6 := c3.cell 6
            have z7 := c3.cell 7
            simp at z0 z1 z2 z3 z4 z5 z6 z7
            refine bodyPost_ret (v := .agg #[.string key, .string live.val, .bool live.dead, .int .i64 live.at_, .int .i64 live.fin, .int .i64 gone, .int .i64 0, .slice av cols.length cv]) ?_ rfl ⟨⟨key, live, gone, 0, cols⟩, _, rfl, rfl, ⟨hgl, hgo, rfl, hgc⟩, ownsRow_base hoK (by omega), hgr, hleft⟩
            simp [results, Tryd.results34, go_sem, Act.put, z0, z1, z2, z3, z4, z5, z6, z7]
  · by_cases k3 : N / 840 % 4 = 0
    · go_wp2_with fail
      clear x1 x2 x3 x4 x5 xf k1 k3
      go_loopw [7] (fun i wr => ∃ (k : Nat) (live : Cl) (gone : Int) (cols : List Co) (vc : Value), k ≤ 4 ∧ i = .int .i64 k ∧ GenLive live ∧ (0 ≤ gone ∧ gone ≤ 7) ∧ GenCols k cols ∧ RowAL W w p key wr live gone cols vc ∧ wr.ownsRow (w.heap.size + 2) 100 5 vc cols.length (coCells cols)) (fun i _ => 4 - (intOf i).toNat)
      case atStart => exact ⟨0, zeroCl, (N / 3360 % 8), [], .slice none 0 0, Nat.zero_le _, rfl, HLV.out _ (.inl rfl), G3.out, GenCols.nil, (H.gone' hpl), World.ownsRow_nil _ _ _ _⟩
      case round =>
        obtain ⟨k, live, gone, cols, vc, hk, rfl, hgl, hgo, hgc, hal, hown⟩ := hrel
        by_cases hlt : k < 4
        · have hw10 : IntKind.i64.wrap (10 + (k : Int)) = 10 + (k : Int) := by rw [IntKind.wrap_i64]; omega
          have hlen := hgc.len
          have hwsz : w.heap.size ≤ wr.heap.size := hal.grown.size
          go_wp2_with fail
          · have hk4 : decide ((k : Int) < 4) = true := decide_eq_true (by omega)
            refine wp_region_relE (RC W w p key wr live gone cols vc) (RE p vc) (Tab.atE [(1, fun v _ => v = vc), (2, fun v x => ∃ b, v = .slice (some ⟨b, 0, none⟩) 4 4 ∧ wr.heap.size ≤ b ∧ BoxAt x b nm4 9), (5, fun v _ => v = .string (nmK k)), (7, fun v _ => ∃ n : Int, 0 ≤ n ∧ v = (.agg #[.string (cellN n).val, .bool (cellN n).dead, .int .i64 (cellN n).at_, .int .i64 (cellN n).fin])), (9, fun v x => ∃ (b : Nat) (n : Int), 0 ≤ n ∧ v = .slice (some ⟨b, 0, none⟩) 1 1 ∧ wr.heap.size ≤ b ∧ BoxAt x b (co5 ⟨nmK k, cellN n⟩) 100), (10, fun v x => ∃ n : Int, 0 ≤ n ∧ x.ownsRow (w.heap.size + 2) 100 5 v (cols.length + 1) (coCells (cols ++ [⟨nmK k, cellN n⟩])))])
              (Tab.staysE ⟨fun _ _ _ _ _ _ h => h, fun j _ v x y hR ⟨b, e, hb, hx⟩ => ⟨b, e, hb, RE_box hpl hwsz hown hR hb hx⟩, fun _ _ _ _ _ _ h => h, fun _ _ _ _ _ _ h => h, fun j _ v x y hR ⟨b, n, h0, e, hb, hx⟩ => ⟨b, n, h0, e, hb, RE_box hpl hwsz hown hR hb hx⟩, fun j hj v x y hR ⟨n, h0, hx⟩ => ⟨n, h0, RE_own hpl hj hR hx⟩, trivial⟩)
              12 (by kernel_rfl) (by kernel_rfl) (by kernel_rfl) ((⟨hal, hown, Nat.le_refl _⟩ : RC W w p key wr live gone cols vc wr).ext (Ext.refl wr).drew) ?_
            refine relE_quiet rfl rfl rfl rfl ?_; intro K hK; go_big_quiet_op; (first | refine ⟨_, fun _ _ => rfl, hK _ ?_⟩ | refine hK _ ?_); clear hK K
            refine relE_val [] rfl rfl rfl (by kernel_rfl) (fun x hx hf => ?_) ?_
            · have c7 := hx.al.box.cell 7
              simp [ro8] at c7
              go_simp
              exact ⟨hx, RE_ext (Ext.refl x), rfl⟩
            simp only [Act.put, List.setIfInBounds_toArray, List.set_cons_zero, List.set_cons_succ]
            refine relE_fact [] rfl rfl rfl (by kernel_rfl) (fun x hx hf => ?_) (fun v2 x2 hC2 hG2 h2 => ?_)
            · go_simp
              exact (names_any x).mono fun e y ⟨he, hy⟩ => ⟨_, he, hx.ext (hy ▸ (Ext.refl x).alloc _), RE_ext (hy ▸ (Ext.refl x).alloc _), _, rfl, hx.size, hy ▸ BoxAt.made x _ _⟩
            obtain ⟨b2, rfl, hb2, _⟩ := h2
            have HB2 := Lib.hid hb2
            clear hC2 hG2 hb2
            simp only [Act.put, List.setIfInBounds_toArray, List.set_cons_zero, List.set_cons_succ]
            refine relE_quiet rfl rfl rfl rfl ?_; intro K hK; go_big_quiet_op; (first | refine ⟨_, fun _ _ => rfl, hK _ ?_⟩ | refine hK _ ?_); clear hK K
            refine relE_quiet rfl rfl rfl rfl ?_; intro K hK; go_big_quiet_op; (first | refine ⟨_, fun _ _ => rfl, hK _ ?_⟩ | refine hK _ ?_); clear hK K
            refine relE_val [2] rfl rfl rfl (by kernel_rfl) (fun x hx hf => ?_) ?_
            · obtain ⟨b, e, _, hbox⟩ := (hf 2 (by simp)).2 rfl
              cases e
              have c7 := (hbox.cell k).trans (nm4_get k hlt)
              go_simp
              exact ⟨hx, RE_ext (Ext.refl x), rfl⟩
            simp only [Act.put, List.setIfInBounds_toArray, List.set_cons_zero, List.set_cons_succ]
            refine relE_quiet rfl rfl rfl rfl ?_; intro K hK; go_big_quiet_op; (first | refine ⟨_, fun _ _ => rfl, hK _ ?_⟩ | refine hK _ ?_); clear hK K
            refine relE_fact [] rfl rfl rfl (by kernel_rfl) (fun x hx hf => ?_) (fun v7 x7 hC7 hG7 h7 => ?_)
            · go_simp
              exact (lcell_ex W p hp x (hW.grown hx.al.grown (fun q hq => by cases hq; exact hp)) hx.al.left).mono fun e y ⟨n, h0, he, hg, hl⟩ => ⟨_, he, ⟨⟨hx.al.box.grown hg (by simp; omega), hx.al.res.grown hg (by simp; omega), hl, grownBy_trans hx.al.grown hg⟩, RE_own (vc := vc) (j := 7) hpl (by decide) (by unfold RE; rw [if_neg (by decide)]; exact hg) hx.own, Nat.le_trans hx.size hg.size⟩, by unfold RE; rw [if_neg (by decide)]; exact hg, n, h0, rfl⟩
            obtain ⟨n7, hn7, rfl⟩ := h7
            clear hC7 hG7
            simp only [Act.put, List.setIfInBounds_toArray, List.set_cons_zero, List.set_cons_succ]
            refine relE_quiet rfl rfl rfl rfl ?_; intro K hK; go_big_quiet_op; (first | refine ⟨_, fun _ _ => rfl, hK _ ?_⟩ | refine hK _ ?_); clear hK K
            refine relE_fact [] rfl rfl rfl (by kernel_rfl) (fun x hx hf => ?_) (fun v9 x9 hC9 hG9 h9 => ?_)
            · go_simp
              exact ⟨hx.ext ((Ext.refl x).alloc _), RE_ext ((Ext.refl x).alloc _), _, n7, hn7, rfl, hx.size, BoxAt.made x _ _⟩
            obtain ⟨b9, n9, hn9, rfl, hb9, _⟩ := h9
            have HB9 := Lib.hid hb9
            clear hC9 hG9 hb9
            simp only [Act.put, List.setIfInBounds_toArray, List.set_cons_zero, List.set_cons_succ]
            refine relE_fact [9] rfl rfl rfl (by kernel_rfl) (fun x hx hf => ?_) (fun v10 x10 hC10 hG10 h10 => ?_)
            · obtain ⟨b, n, h0, e, _, hbox⟩ := (hf 9 (by simp)).2 rfl
              cases e
              refine yields_append info_Col und_Cols rfl (by decide) (.tmp 51) (.tmp 59) rfl (w.heap.size + 2) (by have := hx.al.box.lt; omega) vc cols.length (coCells cols) hx.own (by rfl) b9 1 1 (co5 ⟨nmK k, cellN n⟩).toList (by rfl) (by rfl) (fun j u hj => by rw [hbox.cell j]; simpa using hj) (by simp [co5, Value.oneCell']) (by unfold maxLen; omega) (by omega) ?_
              intro v' y hown' hg hkeep
              have hne : ∀ q, some q = vc.ownBlock → w.heap.size + 2 ≤ q := fun q hq => (hx.own.lt q hq.symm).1
              refine ⟨⟨⟨hx.al.box.grown hg (fun e => by have := hne _ e; omega), hx.al.res.grown hg (fun e => by have := hne _ e; omega), ?_, ?_⟩, ?_, Nat.le_trans hx.size hg.size⟩, by unfold RE; rw [if_pos rfl]; exact hg, n, h0, ?_⟩
              · obtain ⟨vl, l, hv, hin⟩ := hx.al.left
                exact ⟨vl, l, hv.grown hg (fun e => by have := hne _ e; omega), hin⟩
              · refine ⟨hg.os.trans hx.al.grown.os, hg.tape.trans hx.al.grown.tape, hg.output.trans hx.al.grown.output, Nat.le_trans hx.al.grown.size hg.size, fun q hq hqp => (hg.block q (Nat.lt_of_lt_of_le hq hx.al.grown.size) (fun e => by have := hne _ e; omega)).trans (hx.al.grown.block q hq hqp)⟩
              · exact hkeep
              · rw [coCells_append]
                exact hown'
            obtain ⟨n10, hn10, hown10⟩ := h10
            obtain ⟨a10, c10, rfl⟩ := ownsRow_shape hown10
            clear hC10 hG10 hown10
            simp only [Act.put, List.setIfInBounds_toArray, List.set_cons_zero, List.set_cons_succ]
            refine relE_quiet rfl rfl rfl rfl ?_; intro K hK; go_big_quiet_op; (first | refine ⟨_, fun _ _ => rfl, hK _ ?_⟩ | refine hK _ ?_); clear hK K
            refine relE_tail rfl rfl fun x hx hG => ?_
            obtain ⟨n, hn, hown'⟩ := (hG 10).2 rfl
            clear hG
            have c7 := hx.al.box.cell 7
            have f7 := hx.al.box.free 7
            simp [ro8] at c7
            go_wp2_with fail
            go_roundw
            case rel =>
              refine ⟨k + 1, live, gone, cols ++ [⟨nmK k, cellN n⟩], _, by omega, by go_num, hgl, hgo, hgc.put hn, ⟨hx.al.box.set 7 _, hx.al.res.other (by omega) 7 _, hx.al.left.other (by omega), grownBy_new hx.al.grown (Nat.le_succ _)⟩, ?_⟩
              rw [List.length_append]
              exact ownsRow_setCell_below hown' (a := ⟨w.heap.size + 1, 7, none⟩) (by show w.heap.size + 1 < w.heap.size + 2; omega) _
            case measure => simp [intOf] <;> omega
          · go_roundw
            case rel => exact ⟨k + 1, live, gone, cols, vc, by omega, by go_num, hgl, hgo, hgc.skip, hal, hown⟩
            case measure => simp [intOf] <;> omega
        · obtain rfl : k = 4 := by omega
          have y : ∀ i, wr.cell? ⟨w.heap.size + 1, i, none⟩ = (ro8 ⟨key, live, gone, 0, cols⟩ vc)[i]? := fun i => hal.box.cell i
          have hres := hal.res
          obtain ⟨av, cv, rfl⟩ := ownsRow_shape hown
          go_wp2_with ((guard_target =~ wpList _ _ _ (Oper.mk none (Op.store _ (Operand.tmp 4) (Operand.tmp 62)) _ _ _ _ :: _) _ _); go_must (refine storeBox rfl 88 (.tmp 4) (.tmp 62) rfl (w.heap.size) _ _ _ (by rfl) (by rfl) (hres) (by kernel_rfl) (by rfl) (by simp [Value.oneCell']) ?_); intro w3 c3 g3)
          have hoK : w3.ownsRow (w.heap.size + 2) 100 5 (.slice av cols.length cv) cols.length (coCells cols) := hown.kept g3 (by
            cases e : Value.ownBlock (.slice av cols.length cv) with
            | none => exact .inl rfl
            | some q => exact .inr (fun h => by have := (hown.lt q e).1; have := Option.some.inj h; omega))
          have hleft : LeftIn W w3 p := by
            obtain ⟨vl, l, hv, hin⟩ := hal.left
            exact ⟨vl, l, hv.grown g3 (fun e => by have := Option.some.inj e; omega), hin⟩
          have hgr : w.grownBy w3 (some p) := ⟨g3.os.trans hal.grown.os, g3.tape.trans hal.grown.tape, g3.output.trans hal.grown.output, Nat.le_trans hal.grown.size g3.size, fun q hq hqp => (g3.block q (Nat.lt_of_lt_of_le hq hal.grown.size) (fun e => by have := Option.some.inj e; omega)).trans (hal.grown.block q hq hqp)⟩
          clear y hres hal hown g3
          have z0 := c3.cell 0
          have z1 := c3.cell 1
          have z2 := c3.cell 2
          have z3 := c3.cell 3
          have z4 := c3.cell 4
          have z5 := c3.cell 5
          have z6 := c3.cell 6
          have z7 := c3.cell 7
          simp at z0 z1 z2 z3 z4 z5 z6 z7
          refine bodyPost_ret (v := .agg #[.string key, .string live.val, .bool live.dead, .int .i64 live.at_, .int .i64 live.fin, .int .i64 gone, .int .i64 0, .slice av cols.length cv]) ?_ rfl ⟨⟨key, live, gone, 0, cols⟩, _, rfl, rfl, ⟨hgl, hgo, rfl, hgc⟩, ownsRow_base hoK (by omega), hgr, hleft⟩
          simp [results, Tryd.results34, go_sem, Act.put, z0, z1, z2, z3, z4, z5, z6, z7]
    · go_wp2_with fail
      clear x1 x2 x3 x4 x5 xf k1 k3
      go_loopw [7] (fun i wr => ∃ (k : Nat) (live : Cl) (gone : Int) (cols : List Co) (vc : Value), k ≤ 4 ∧ i = .int .i64 k ∧ GenLive live ∧ (0 ≤ gone ∧ gone ≤ 7) ∧ GenCols k cols ∧ RowAL W w p key wr live gone cols vc ∧ wr.ownsRow (w.heap.size + 2) 100 5 vc cols.length (coCells cols)) (fun i _ => 4 - (intOf i).toNat)
      case atStart => exact ⟨0, zeroCl, 0, [], .slice none 0 0, Nat.zero_le _, rfl, HLV.out _ (.inl rfl), ⟨Int.le_refl 0, by decide⟩, GenCols.nil, H, World.ownsRow_nil _ _ _ _⟩
      case round =>
        obtain ⟨k, live, gone, cols, vc, hk, rfl, hgl, hgo, hgc, hal, hown⟩ := hrel
        by_cases hlt : k < 4
        · have hw10 : IntKind.i64.wrap (10 + (k : Int)) = 10 + (k : Int) := by rw [IntKind.wrap_i64]; omega
          have hlen := hgc.len
          have hwsz : w.heap.size ≤ wr.heap.size := hal.grown.size
          go_wp2_with fail
          · have hk4 : decide ((k : Int) < 4) = true := decide_eq_true (by omega)
            refine wp_region_relE (RC W w p key wr live gone cols vc) (RE p vc) (Tab.atE [(1, fun v _ => v = vc), (2, fun v x => ∃ b, v = .slice (some ⟨b, 0, none⟩) 4 4 ∧ wr.heap.size ≤ b ∧ BoxAt x b nm4 9), (5, fun v _ => v = .string (nmK k)), (7, fun v _ => ∃ n : Int, 0 ≤ n ∧ v = (.agg #[.string (cellN n).val, .bool (cellN n).dead, .int .i64 (cellN n).at_, .int .i64 (cellN n).fin])), (9, fun v x => ∃ (b : Nat) (n : Int), 0 ≤ n ∧ v = .slice (some ⟨b, 0, none⟩) 1 1 ∧ wr.heap.size ≤ b ∧ BoxAt x b (co5 ⟨nmK k, cellN n⟩) 100), (10, fun v x => ∃ n : Int, 0 ≤ n ∧ x.ownsRow (w.heap.size + 2) 100 5 v (cols.length + 1) (coCells (cols ++ [⟨nmK k, cellN n⟩])))])
              (Tab.staysE ⟨fun _ _ _ _ _ _ h => h, fun j _ v x y hR ⟨b, e, hb, hx⟩ => ⟨b, e, hb, RE_box hpl hwsz hown hR hb hx⟩, fun _ _ _ _ _ _ h => h, fun _ _ _ _ _ _ h => h, fun j _ v x y hR ⟨b, n, h0, e, hb, hx⟩ => ⟨b, n, h0, e, hb, RE_box hpl hwsz hown hR hb hx⟩, fun j hj v x y hR ⟨n, h0, hx⟩ => ⟨n, h0, RE_own hpl hj hR hx⟩, trivial⟩)
              12 (by kernel_rfl) (by kernel_rfl) (by kernel_rfl) ((⟨hal, hown, Nat.le_refl _⟩ : RC W w p key wr live gone cols vc wr).ext (Ext.refl wr).drew) ?_
            refine relE_quiet rfl rfl rfl rfl ?_; intro K hK; go_big_quiet_op; (first | refine ⟨_, fun _ _ => rfl, hK _ ?_⟩ | refine hK _ ?_); clear hK K
            refine relE_val [] rfl rfl rfl (by kernel_rfl) (fun x hx hf => ?_) ?_
            · have c7 := hx.al.box.cell 7
              simp [ro8] at c7
              go_simp
              exact ⟨hx, RE_ext (Ext.refl x), rfl⟩
            simp only [Act.put, List.setIfInBounds_toArray, List.set_cons_zero, List.set_cons_succ]
            refine relE_fact [] rfl rfl rfl (by kernel_rfl) (fun x hx hf => ?_) (fun v2 x2 hC2 hG2 h2 => ?_)
            · go_simp
              exact (names_any x).mono fun e y ⟨he, hy⟩ => ⟨_, he, hx.ext (hy ▸ (Ext.refl x).alloc _), RE_ext (hy ▸ (Ext.refl x).alloc _), _, rfl, hx.size, hy ▸ BoxAt.made x _ _⟩
            obtain ⟨b2, rfl, hb2, _⟩ := h2
            have HB2 := Lib.hid hb2
            clear hC2 hG2 hb2
            simp only [Act.put, List.setIfInBounds_toArray, List.set_cons_zero, List.set_cons_succ]
            refine relE_quiet rfl rfl rfl rfl ?_; intro K hK; go_big_quiet_op; (first | refine ⟨_, fun _ _ => rfl, hK _ ?_⟩ | refine hK _ ?_); clear hK K
            refine relE_quiet rfl rfl rfl rfl ?_; intro K hK; go_big_quiet_op; (first | refine ⟨_, fun _ _ => rfl, hK _ ?_⟩ | refine hK _ ?_); clear hK K
            refine relE_val [2] rfl rfl rfl (by kernel_rfl) (fun x hx hf => ?_) ?_
            · obtain ⟨b, e, _, hbox⟩ := (hf 2 (by simp)).2 rfl
              cases e
              have c7 := (hbox.cell k).trans (nm4_get k hlt)
              go_simp
              exact ⟨hx, RE_ext (Ext.refl x), rfl⟩
            simp only [Act.put, List.setIfInBounds_toArray, List.set_cons_zero, List.set_cons_succ]
            refine relE_quiet rfl rfl rfl rfl ?_; intro K hK; go_big_quiet_op; (first | refine ⟨_, fun _ _ => rfl, hK _ ?_⟩ | refine hK _ ?_); clear hK K
            refine relE_fact [] rfl rfl rfl (by kernel_rfl) (fun x hx hf => ?_) (fun v7 x7 hC7 hG7 h7 => ?_)
            · go_simp
              exact (lcell_ex W p hp x (hW.grown hx.al.grown (fun q hq => by cases hq; exact hp)) hx.al.left).mono fun e y ⟨n, h0, he, hg, hl⟩ => ⟨_, he, ⟨⟨hx.al.box.grown hg (by simp; omega), hx.al.res.grown hg (by simp; omega), hl, grownBy_trans hx.al.grown hg⟩, RE_own (vc := vc) (j := 7) hpl (by decide) (by unfold RE; rw [if_neg (by decide)]; exact hg) hx.own, Nat.le_trans hx.size hg.size⟩, by unfold RE; rw [if_neg (by decide)]; exact hg, n, h0, rfl⟩
            obtain ⟨n7, hn7, rfl⟩ := h7
            clear hC7 hG7
            simp only [Act.put, List.setIfInBounds_toArray, List.set_cons_zero, List.set_cons_succ]
            refine relE_quiet rfl rfl rfl rfl ?_; intro K hK; go_big_quiet_op; (first | refine ⟨_, fun _ _ => rfl, hK _ ?_⟩ | refine hK _ ?_); clear hK K
            refine relE_fact [] rfl rfl rfl (by kernel_rfl) (fun x hx hf => ?_) (fun v9 x9 hC9 hG9 h9 => ?_)
            · go_simp
              exact ⟨hx.ext ((Ext.refl x).alloc _), RE_ext ((Ext.refl x).alloc _), _, n7, hn7, rfl, hx.size, BoxAt.made x _ _⟩
            obtain ⟨b9, n9, hn9, rfl, hb9, _⟩ := h9
            have HB9 := Lib.hid hb9
            clear hC9 hG9 hb9
            simp only [Act.put, List.setIfInBounds_toArray, List.set_cons_zero, List.set_cons_succ]
            refine relE_fact [9] rfl rfl rfl (by kernel_rfl) (fun x hx hf => ?_) (fun v10 x10 hC10 hG10 h10 => ?_)
            · obtain ⟨b, n, h0, e, _, hbox⟩ := (hf 9 (by simp)).2 rfl
              cases e
              refine yields_append info_Col und_Cols rfl (by decide) (.tmp 51) (.tmp 59) rfl (w.heap.size + 2) (by have := hx.al.box.lt; omega) vc cols.length (coCells cols) hx.own (by rfl) b9 1 1 (co5 ⟨nmK k, cellN n⟩).toList (by rfl) (by rfl) (fun j u hj => by rw [hbox.cell j]; simpa using hj) (by simp [co5, Value.oneCell']) (by unfold maxLen; omega) (by omega) ?_
              intro v' y hown' hg hkeep
              have hne : ∀ q, some q = vc.ownBlock → w.heap.size + 2 ≤ q := fun q hq => (hx.own.lt q hq.symm).1
              refine ⟨⟨⟨hx.al.box.grown hg (fun e => by have := hne _ e; omega), hx.al.res.grown hg (fun e => by have := hne _ e; omega), ?_, ?_⟩, ?_, Nat.le_trans hx.size hg.size⟩, by unfold RE; rw [if_pos rfl]; exact hg, n, h0, ?_⟩
              · obtain ⟨vl, l, hv, hin⟩ := hx.al.left
                exact ⟨vl, l, hv.grown hg (fun e => by have := hne _ e; omega), hin⟩
              · refine ⟨hg.os.trans hx.al.grown.os, hg.tape.trans hx.al.grown.tape, hg.output.trans hx.al.grown.output, Nat.le_trans hx.al.grown.size hg.size, fun q hq hqp => (hg.block q (Nat.lt_of_lt_of_le hq hx.al.grown.size) (fun e => by have := hne _ e; omega)).trans (hx.al.grown.block q hq hqp)⟩
              · exact hkeep
              · rw [coCells_append]
                exact hown'
            obtain ⟨n10, hn10, hown10⟩ := h10
            obtain ⟨a10, c10, rfl⟩ := ownsRow_shape hown10
            clear hC10 hG10 hown10
            simp only [Act.put, List.setIfInBounds_toArray, List.set_cons_zero, List.set_cons_succ]
            refine relE_quiet rfl rfl rfl rfl ?_; intro K hK; go_big_quiet_op; (first | refine ⟨_, fun _ _ => rfl, hK _ ?_⟩ | refine hK _ ?_); clear hK K
            refine relE_tail rfl rfl fun x hx hG => ?_
            obtain ⟨n, hn, hown'⟩ := (hG 10).2 rfl
            clear hG
            have c7 := hx.al.box.cell 7
            have f7 := hx.al.box.free 7
            simp [ro8] at c7
            go_wp2_with fail
            go_roundw
            case rel =>
              refine ⟨k + 1, live, gone, cols ++ [⟨nmK k, cellN n⟩], _, by omega, by go_num, hgl, hgo, hgc.put hn, ⟨hx.al.box.set 7 _, hx.al.res.other (by omega) 7 _, hx.al.left.other (by omega), grownBy_new hx.al.grown (Nat.le_succ _)⟩, ?_⟩
              rw [List.length_append]
              exact ownsRow_setCell_below hown' (a := ⟨w.heap.size + 1, 7, none⟩) (by show w.heap.size + 1 < w.heap.size + 2; omega) _
            case measure => simp [intOf] <;> omega
          · go_roundw
            case rel => exact ⟨k + 1, live, gone, cols, vc, by omega, by go_num, hgl, hgo, hgc.skip, hal, hown⟩
            case measure => simp [intOf] <;> omega
        · obtain rfl : k = 4 := by omega
          have y : ∀ i, wr.cell? ⟨w.heap.size + 1, i, none⟩ = (ro8 ⟨key, live, gone, 0, cols⟩ vc)[i]? := fun i => hal.box.cell i
          have hres := hal.res
          obtain ⟨av, cv, rfl⟩ := ownsRow_shape hown
          go_wp2_with ((guard_target =~ wpList _ _ _ (Oper.mk none (Op.store _ (Operand.tmp 4) (Operand.tmp 62)) _ _ _ _ :: _) _ _); go_must (refine storeBox rfl 88 (.tmp 4) (.tmp 62) rfl (w.heap.size) _ _ _ (by rfl) (by rfl) (hres) (by kernel_rfl) (by rfl) (by simp [Value.oneCell']) ?_); intro w3 c3 g3)
          have hoK : w3.ownsRow (w.heap.size + 2) 100 5 (.slice av cols.length cv) cols.length (coCells cols) := hown.kept g3 (by
            cases e : Value.ownBlock (.slice av cols.length cv) with
            | none => exact .inl rfl
            | some q => exact .inr (fun h => by have := (hown.lt q e).1; have := Option.some.inj h; omega))
          have hleft : LeftIn W w3 p := by
            obtain ⟨vl, l, hv, hin⟩ := hal.left
            exact ⟨vl, l, hv.grown g3 (fun e => by have := Option.some.inj e; omega), hin⟩
          have hgr : w.grownBy w3 (some p) := ⟨g3.os.trans hal.grown.os, g3.tape.trans hal.grown.tape, g3.output.trans hal.grown.output, Nat.le_trans hal.grown.size g3.size, fun q hq hqp => (g3.block q (Nat.lt_of_lt_of_le hq hal.grown.size) (fun e => by have := Option.some.inj e; omega)).trans (hal.grown.block q hq hqp)⟩
          clear y hres hal hown g3
          have z0 := c3.cell 0
          have z1 := c3.cell 1
          have z2 := c3.cell 2
          have z3 := c3.cell 3
          have z4 := c3.cell 4
          have z5 := c3.cell 5
          have z6 := c3.cell 6
          have z7 := c3.cell 7
          simp at z0 z1 z2 z3 z4 z5 z6 z7
          refine bodyPost_ret (v := .agg #[.string key, .string live.val, .bool live.dead, .int .i64 live.at_, .int .i64 live.fin, .int .i64 gone, .int .i64 0, .slice av cols.length cv]) ?_ rfl ⟨⟨key, live, gone, 0, cols⟩, _, rfl, rfl, ⟨hgl, hgo, rfl, hgc⟩, ownsRow_base hoK (by omega), hgr, hleft⟩
          simp [results, Tryd.results34, go_sem, Act.put, z0, z1, z2, z3, z4, z5, z6, z7]
end Go.Proofs.YtfagnbofnaoncaaDoor

/- The walk over the reference 02: Int, by itself. -/

namespace Go.Proofs.YtfagnbofnaoncaaDoor
open Go Go.RowKit
attribute [local go_sem] yields yUpon

theorem nat_xor_top (V : Nat) (h : V < 18446744073709551616) : V ^^^ 9223372036854775808 = (V + 9223372036854775808) % 18446744073709551616 := by
  apply Nat.eq_of_testBit_eq
  intro i
  have e1 : (9223372036854775808 : Nat) = 2 ^ 63 := by decide
  have e2 : (18446744073709551616 : Nat) = 2 ^ 64 := by decide
  rw [e1, e2, Nat.testBit_xor, Nat.testBit_mod_two_pow, Nat.testBit_two_pow]
  rcases Nat.lt_trichotomy i 63 with hi | hi | hi
  · rw [Nat.add_comm, Nat.testBit_two_pow_add_gt hi]
    have : ¬ 63 = i := by omega
    have h' : i < 64 := by omega
    simp [this, h']
  · subst hi
    rw [Nat.add_comm, Nat.testBit_two_pow_add_eq]
    simp
  · have h1 : V.testBit i = false := Nat.testBit_lt_two_pow (Nat.lt_of_lt_of_le (by rw [← e2]; exact h) (Nat.pow_le_pow_right (by decide) (by omega : 64 ≤ i)))
    have h2 : ¬ 63 = i := by omega
    have h3 : ¬ i < 64 := by omega
    simp [h1, h2, h3]

theorem bits_xor_top (V : Nat) (h : V < 18446744073709551616) : bits .xor .u64 (V : Int) 9223372036854775808 = (((V + 9223372036854775808) % 18446744073709551616 : Nat) : Int) := by
  have e : bits .xor .u64 (V : Int) ((9223372036854775808 : Nat) : Int) = ((V ^^^ 9223372036854775808 : Nat) : Int) := by
    simp only [bits, BitVec.ofInt_natCast, BitVec.toNat_xor, BitVec.toNat_ofNat]
    have hp : (2 : Nat) ^ IntKind.u64.bits = 18446744073709551616 := by decide
    rw [hp, Nat.mod_eq_of_lt h, Nat.mod_eq_of_lt (by decide), IntKind.wrap_u64, nat_xor_top V h]
    omega
  rw [nat_xor_top V h] at e
  exact e
theorem str_app (l m : List UInt8) : str l ++ str m = str (l ++ m) := by
  apply ByteArray.ext
  simp [str]
theorem ret_str {x y : ByteArray} (h : x = y) : Ending.returned (.string x) = .returned (.string y) := by rw [h]

theorem byte_in (w : World) (X : Int) (h0 : 0 ≤ X) (h1 : X < 256) : BytesIn (w.alloc (.cells #[.int .u8 X] 5)) (.slice (some ⟨w.heap.size, 0, none⟩) 1 1) [UInt8.ofNat X.toNat] := by
  unfold BytesIn
  rw [← cs1 h0 h1]
  exact SliceIn.made w _ _ 1 (by unfold maxLen; omega)

set_option maxRecDepth 100000 in
set_option maxHeartbeats 1000000 in
theorem rint_any (v : Int) (w : World) :
    Calls Tryd.prog 35 #[.int .i64 v] w fun e w' => e = .returned (.string (str (int8 v))) ∧ Ext w w' := by
  obtain ⟨U, hU⟩ : ∃ U, U = ((v + 9223372036854775808) % 18446744073709551616).toNat := ⟨_, rfl⟩
  have hx : bits .xor .u64 (IntKind.u64.wrap v) 9223372036854775808 = (U : Int) := by
    have h1 : IntKind.u64.wrap v = ((v % 18446744073709551616).toNat : Int) := by rw [IntKind.wrap_u64]; omega
    rw [h1, bits_xor_top _ (by omega), hU]
    omega
  have HU := Lib.hid hU
  clear hU
  go_enter Tryd.func35, Tryd.ntmps35
  go_wp2
  go_loopw [4, 5] (fun t n wr => ∃ (k : Nat), k ≤ 8 ∧ n = .int .i64 k ∧ t = .string (str (beB k U)) ∧ Ext w wr) (fun _ n _ => 8 - (intOf n).toNat)
  case atStart => exact ⟨0, by omega, rfl, rfl, Ext.refl w⟩
  case round =>
    obtain ⟨k, hk, rfl, rfl, hE⟩ := hrel
    have q1 : ¬ 9223372036854775807 < 1 + (beB k U).length := by rw [beB_length]; omega
    by_cases hlt : k < 8
    · go_wp2
      have hX0 : (0 : Int) ≤ (U : Int) / 2 ^ (8 * k) % 256 := Int.emod_nonneg _ (by decide)
      have hX1 : (U : Int) / 2 ^ (8 * k) % 256 < 256 := Int.emod_lt_of_pos _ (by decide)
      rw [run_convert_bytesIn _ 45 9 5 und_bytes und_u8 und_string (byte_in wr _ hX0 hX1)]
      simp only [Result.andThen]
      rw [Oper.upon_value]
      have hcat : Hid (str [UInt8.ofNat ((U : Int) / 2 ^ (8 * k) % 256).toNat] ++ str (beB k U) = str (beB (k + 1) U)) := by
        rw [str_app, byte_shift]
        rfl
      go_wp2
      go_roundw
      case rel => exact ⟨k + 1, by omega, by go_num, by rw [← hcat.out], hE.alloc _⟩
      case measure => simp [intOf] <;> omega
    · have hk8 : k = 8 := by omega
      go_wp2
      go_ret
      refine ⟨?_, hE⟩
      refine ret_str ?_
      unfold int8
      rw [← HU.out, hk8]

end Go.Proofs.YtfagnbofnaoncaaDoor

/- L.Part: a partition by numbers. -/
namespace Go.Proofs.YtfagnbofnaoncaaDoor
open Go Go.RowKit
attribute [local go_sem] yields yUpon ro8 pa3

/-- The key of a row by numbers. -/
def ik (k : Nat) : ByteArray := str (int8 (k : Int))
/-- Rows by numbers, of the first so many keys. -/
inductive GenRows : Nat → List Ro → Prop
  | nil : GenRows 0 []
  | skip {k l} : GenRows k l → GenRows (k + 1) l
  | put {k l r} : GenRows k l → GenRow r → r.key = ik k → GenRows (k + 1) (l ++ [r])
theorem GenRows.len {k : Nat} {l : List Ro} (h : GenRows k l) : l.length ≤ k := by
  induction h with
  | nil => exact Nat.le_refl 0
  | skip _ ih => omega
  | put _ _ _ ih => simp; omega

/-- The partition under way: its box, the box of the result, the numbers that are left. -/
structure PartAL (W w : World) (p : Nat) (key : ByteArray) (wr : World) (gone : Int) (qs : List (Ro × Value)) (vo : Value) : Prop where
  box : BoxAt wr (w.heap.size + 1) (pa3 key gone vo) 39
  res : BoxAt wr w.heap.size (pa3 ⟨#[]⟩ 0 (.slice none 0 0)) 39
  left : LeftIn W wr p
  grown : w.grownBy wr (some p)
  own : wr.ownsRow (w.heap.size + 2) 88 8 vo qs.length (roCells qs)
  typed : ∀ q ∈ qs, ColsT wr q.2 q.1.cols
/-- What stays true in the round's region. -/
structure PC (W w : World) (p : Nat) (key : ByteArray) (wr : World) (gone : Int) (qs : List (Ro × Value)) (vo : Value) (x : World) : Prop where
  al : PartAL W w p key x gone qs vo
  size : wr.heap.size ≤ x.heap.size
def RP (p : Nat) (vo : Value) (B j : Nat) (x y : World) : Prop :=
  if j = 7 then (∃ m xs, x.ownsRow B 88 8 vo m xs) ∧ x.grownBy y vo.ownBlock else (∃ v, BoxAt x p #[v] 67) ∧ x.grownBy y (some p)
theorem PartAL.ext {W w : World} {p : Nat} {key : ByteArray} {wr wx : World} {gone : Int} {qs : List (Ro × Value)} {vo : Value} (hE : Ext wr wx) (h : PartAL W w p key wr gone qs vo) : PartAL W w p key wx gone qs vo :=
  ⟨h.box.ext hE, h.res.ext hE, h.left.ext hE, grownBy_ext h.grown hE, ownsRow_ext h.own hE, fun q hq => (h.typed q hq).ext hE⟩
theorem PC.ext {W w : World} {p : Nat} {key : ByteArray} {wr x y : World} {gone : Int} {qs : List (Ro × Value)} {vo : Value} (hE : Ext x y) (h : PC W w p key wr gone qs vo x) : PC W w p key wr gone qs vo y := ⟨h.al.ext hE, Nat.le_trans h.size hE.le⟩
theorem LeftIn.box {W w : World} {p : Nat} (h : LeftIn W w p) : ∃ v, BoxAt w p #[v] 67 := let ⟨v, _, h, _⟩ := h; ⟨v, h⟩
theorem RP_ext {W : World} {p : Nat} {vo : Value} {B j : Nat} {x y : World} (hj : j ≠ 7) (hL : LeftIn W x p) (h : Ext x y) : RP p vo B j x y := by
  unfold RP
  rw [if_neg hj]
  exact ⟨hL.box, grownBy_ext (grownBy_refl x _) h⟩
theorem RP_far {p B : Nat} {vo : Value} {wr x y : World} {n : Nat} {xs : List Value} (hown : wr.ownsRow B 88 8 vo n xs) (hpl : p < wr.heap.size) {j : Nat} (h : RP p vo B j x y) {b : Nat} (hb : wr.heap.size ≤ b) {cs : Array Value} {e : TypeId} (hx : BoxAt x b cs e) : BoxAt y b cs e := by
  unfold RP at h
  split at h
  · exact hx.grown h.2 (fun e => by have := (hown.lt _ e.symm).2; omega)
  · exact hx.grown h.2 (fun e => by have := Option.some.inj e; omega)
theorem RP_cols {p B : Nat} {vo : Value} {x y : World} {j : Nat} (h : RP p vo B j x y) {v : Value} {l : List Co} (hc : ColsT x v l) : ColsT y v l := by
  unfold RP at h
  split at h
  · obtain ⟨⟨m, xs, hown⟩, hg⟩ := h
    exact TIn.keepOwn hown hg (by decide) hc
  · obtain ⟨⟨v, hb⟩, hg⟩ := h
    exact ColsT.keep hg hb (by decide) hc
theorem RP_own {w : World} {p : Nat} {vo : Value} (hpl : p < w.heap.size) {x y : World} {j : Nat} (hj : j ≠ 7) (h : RP p vo (w.heap.size + 2) j x y) {v : Value} {m : Nat} {xs : List Value} (hx : x.ownsRow (w.heap.size + 2) 88 8 v m xs) : y.ownsRow (w.heap.size + 2) 88 8 v m xs := by
  unfold RP at h
  rw [if_neg hj] at h
  refine hx.kept h.2 ?_
  cases e : v.ownBlock with
  | none => exact .inl rfl
  | some g => exact .inr (fun h => by have := (hx.lt g e).1; have := Option.some.inj h; omega)
theorem PartAL.call {W w : World} {p : Nat} {key : ByteArray} {wr x y : World} {gone : Int} {qs : List (Ro × Value)} {vo : Value} (hpl : p < w.heap.size) (h : PC W w p key wr gone qs vo x) (hg : x.grownBy y (some p)) (hl : LeftIn W y p) : PC W w p key wr gone qs vo y := by
  obtain ⟨v0, hb0⟩ := h.al.left.box
  refine ⟨⟨h.al.box.grown hg (by simp; omega), h.al.res.grown hg (by simp; omega), hl, grownBy_trans h.al.grown hg, ?_, fun q hq => ColsT.keep hg hb0 (by decide) (h.al.typed q hq)⟩, Nat.le_trans h.size hg.size⟩
  refine h.al.own.kept hg ?_
  cases e : vo.ownBlock with
  | none => exact .inl rfl
  | some g => exact .inr (fun h' => by have := (h.al.own.lt g e).1; have := Option.some.inj h'; omega)

set_option maxRecDepth 100000 in
set_option maxHeartbeats 8000000 in
theorem lpart_any (W : World) (p : Nat) (hp : W.heap.size ≤ p) (key : ByteArray) (w : World) (hW : Ext W w) (hL : LeftIn W w p) :
    Calls Tryd.prog 25 #[.pointer (some ⟨p, 0, none⟩), .string key] w fun e w' => ∃ (g : Int) (v : Value) (qs : List (Ro × Value)), e = .returned (.agg #[.string key, .int .i64 g, v]) ∧ (0 ≤ g ∧ g ≤ 7) ∧ GenRows 4 (qs.map (·.1)) ∧ RowsT w' v qs ∧ w.grownBy w' (some p) ∧ LeftIn W w' p := by
  have hpl : p < w.heap.size := by obtain ⟨v, l, hv, _⟩ := hL; exact hv.lt
  obtain ⟨a0, a1, hE0⟩ := boxes2 w (pa3 ⟨#[]⟩ 0 (.slice none 0 0)) (pa3 key 0 (.slice none 0 0)) 39 39
  have hL0 := hL.ext hE0
  go_enter Tryd.func25, Tryd.ntmps25
  go_wp2_with fail
  refine (next_ex W p hp _ (hW.trans hE0) hL0).mono ?_
  rintro e w1 ⟨N, N0, N1, rfl, hg, hL1⟩
  have hg8 : Hid (0 ≤ N / 5 % 8 ∧ N / 5 % 8 ≤ 7) := ⟨by omega, by omega⟩
  have A0 : PartAL W w p key w1 0 [] (.slice none 0 0) := ⟨a1.grown hg (by simp; omega), a0.grown hg (by simp; omega), hL1, ext_grownBy hE0 hg, World.ownsRow_nil _ _ _ _, nofun⟩
  have A1 : PartAL W w p key (w1.setCell ⟨w.heap.size + 1, 1, none⟩ (.int .i64 (N / 5 % 8))) (N / 5 % 8) [] (.slice none 0 0) := ⟨A0.box.set 1 _, A0.res.other (by omega) 1 _, A0.left.other (by omega), grownBy_new A0.grown (Nat.le_succ _), World.ownsRow_nil _ _ _ _, nofun⟩
  have x1 := A0.box.cell 1
  have xf := A0.box.free
  simp [pa3] at x1
  clear hE0 hL0 hg hL hL1 a0 a1
  by_cases k1 : N % 5 = 0
  · go_wp2_with fail
    clear x1 xf k1
    go_loopw [7] (fun i wr => ∃ (k : Nat) (gone : Int) (qs : List (Ro × Value)) (vo : Value), k ≤ 4 ∧ i = .int .i64 k ∧ (0 ≤ gone ∧ gone ≤ 7) ∧ GenRows k (qs.map (·.1)) ∧ PartAL W w p key wr gone qs vo) (fun i _ => 4 - (intOf i).toNat)
    case atStart => exact ⟨0, (N / 5 % 8), [], .slice none 0 0, Nat.zero_le _, rfl, hg8.out, GenRows.nil, A1⟩
    case round =>
      obtain ⟨k, gone, qs, vo, hk, rfl, hgo, hgr, hal⟩ := hrel
      by_cases hlt : k < 4
      · have hw10 : IntKind.i64.wrap (8 + (k : Int)) = 8 + (k : Int) := by rw [IntKind.wrap_i64]; omega
        have hlen : qs.length ≤ 4 := by have := hgr.len; rw [List.length_map] at this; omega
        have hwsz : w.heap.size ≤ wr.heap.size := hal.grown.size
        have hpl' : p < wr.heap.size := Nat.lt_of_lt_of_le hpl hwsz
        have t1 : decide ((k : Int) < 4) = true := by simp; omega
        go_wp2_with fail
        · refine wp_region_relE (PC W w p key wr gone qs vo) (RP p vo (w.heap.size + 2)) (Tab.atE [(1, fun v _ => v = vo), (4, fun v _ => v = .string (ik k)), (5, fun v x => ∃ (r : Ro) (vc : Value), v = (.agg #[.string r.key, .string r.live.val, .bool r.live.dead, .int .i64 r.live.at_, .int .i64 r.live.fin, .int .i64 r.gone, .int .i64 r.shade, vc]) ∧ r.key = ik k ∧ GenRow r ∧ ColsT x vc r.cols), (6, fun v x => ∃ (r : Ro) (vc : Value) (b : Nat), v = .slice (some ⟨b, 0, none⟩) 1 1 ∧ wr.heap.size ≤ b ∧ BoxAt x b (ro8 r vc) 88 ∧ r.key = ik k ∧ GenRow r ∧ ColsT x vc r.cols), (7, fun v x => ∃ (r : Ro) (vc : Value), r.key = ik k ∧ GenRow r ∧ ColsT x vc r.cols ∧ x.ownsRow (w.heap.size + 2) 88 8 v (qs.length + 1) (roCells (qs ++ [(r, vc)])))])
            (Tab.staysE ⟨fun _ _ _ _ _ _ h => h, fun _ _ _ _ _ _ h => h, fun _ _ _ _ _ hR ⟨r, vc, e, h1, h2, h3⟩ => ⟨r, vc, e, h1, h2, RP_cols hR h3⟩, fun _ _ _ _ _ hR ⟨r, vc, b, e, hb, hx, h1, h2, h3⟩ => ⟨r, vc, b, e, hb, RP_far hal.own hpl' hR hb hx, h1, h2, RP_cols hR h3⟩, fun _ hj _ _ _ hR ⟨r, vc, h1, h2, h3, h4⟩ => ⟨r, vc, h1, h2, RP_cols hR h3, RP_own hpl hj hR h4⟩, trivial⟩)
            9 (by kernel_rfl) (by kernel_rfl) (by kernel_rfl) ((⟨hal, Nat.le_refl _⟩ : PC W w p key wr gone qs vo wr).ext (Ext.refl wr).drew) ?_
          refine relE_quiet rfl rfl rfl rfl ?_; intro K hK; go_big_quiet_op; (first | refine ⟨_, fun _ _ => rfl, hK _ ?_⟩ | refine hK _ ?_); clear hK K
          refine relE_val [] rfl rfl rfl (by kernel_rfl) (fun x hx hf => ?_) ?_
          · obtain ⟨q0, q1, q2⟩ := hx.al.box.pa
            go_simp
            exact ⟨hx, RP_ext (W := W) (by decide) hx.al.left (Ext.refl x), rfl⟩
          simp only [Act.put, List.setIfInBounds_toArray, List.set_cons_zero, List.set_cons_succ]
          refine relE_quiet rfl rfl rfl rfl ?_; intro K hK; go_big_quiet_op; (first | refine ⟨_, fun _ _ => rfl, hK _ ?_⟩ | refine hK _ ?_); clear hK K
          refine relE_quiet rfl rfl rfl rfl ?_; intro K hK; go_big_quiet_op; (first | refine ⟨_, fun _ _ => rfl, hK _ ?_⟩ | refine hK _ ?_); clear hK K
          refine relE_val [] rfl rfl rfl (by kernel_rfl) (fun x hx hf => ?_) ?_
          · go_simp
            exact (rint_any (k : Int) x).mono fun e y ⟨he, hy⟩ => ⟨_, he, hx.ext hy, RP_ext (W := W) (by decide) hx.al.left hy, rfl⟩
          simp only [Act.put, List.setIfInBounds_toArray, List.set_cons_zero, List.set_cons_succ]
          refine relE_fact [] rfl rfl rfl (by kernel_rfl) (fun x hx hf => ?_) (fun v5 x5 hC5 hG5 h5 => ?_)
          · go_simp
            exact (lrow_any W p hp (ik k) x (hW.grown hx.al.grown (fun q hq => by cases hq; exact hp)) hx.al.left).mono fun e y ⟨r, vc, he, hk', hr, ho, hg, hl⟩ => ⟨_, he, PartAL.call hpl hx hg hl, by unfold RP; rw [if_neg (by decide)]; exact ⟨hx.al.left.box, hg⟩, r, vc, rfl, hk', hr, TIn.own ho⟩
          obtain ⟨r5, vc5, rfl, hk5, hr5, hc5⟩ := h5
          clear hC5 hG5 hk5 hr5 hc5
          simp only [Act.put, List.setIfInBounds_toArray, List.set_cons_zero, List.set_cons_succ]
          refine relE_fact [5] rfl rfl rfl (by kernel_rfl) (fun x hx hf => ?_) (fun v6 x6 hC6 hG6 h6 => ?_)
          · obtain ⟨r, vc, e, h1, h2, h3⟩ := (hf 5 (by simp)).2 rfl
            go_simp
            refine ⟨hx.ext ((Ext.refl x).alloc _), RP_ext (W := W) (by decide) hx.al.left ((Ext.refl x).alloc _), r, vc, _, rfl, hx.size, ?_, h1, h2, h3.ext ((Ext.refl x).alloc _)⟩
            rw [h1]
            exact BoxAt.made x _ _
          obtain ⟨r6, vc6, b6, rfl, hb6, _⟩ := h6
          clear hC6 hG6
          simp only [Act.put, List.setIfInBounds_toArray, List.set_cons_zero, List.set_cons_succ]
          refine relE_fact [6] rfl rfl rfl (by kernel_rfl) (fun x hx hf => ?_) (fun v7 x7 hC7 hG7 h7 => ?_)
          · obtain ⟨r, vc, b, e, _, hbox, h1, h2, h3⟩ := (hf 6 (by simp)).2 rfl
            cases e
            obtain ⟨av, cv, rfl⟩ := TIn.shape h3
            refine yields_append info_Row und_Rows rfl (by decide) (.tmp 31) (.tmp 36) rfl (w.heap.size + 2) (by have := hx.al.box.lt; omega) vo qs.length (roCells qs) hx.al.own (by rfl) b6 1 1 (ro8 r (.slice av r.cols.length cv)).toList (by rfl) (by rfl) (fun j u hj => by rw [hbox.cell j]; simpa using hj) (by simp [ro8, Value.oneCell']) (by unfold maxLen; omega) (by omega) ?_
            intro v' y hown' hg hkeep
            have hne : ∀ q, some q = vo.ownBlock → w.heap.size + 2 ≤ q := fun q hq => (hx.al.own.lt q hq.symm).1
            have HR : RP p vo (w.heap.size + 2) 7 x y := by unfold RP; rw [if_pos rfl]; exact ⟨⟨_, _, hx.al.own⟩, hg⟩
            refine ⟨⟨⟨hx.al.box.grown hg (fun e => by have := hne _ e; omega), hx.al.res.grown hg (fun e => by have := hne _ e; omega), ?_, ?_, hkeep, fun q hq => RP_cols HR (hx.al.typed q hq)⟩, Nat.le_trans hx.size hg.size⟩, HR, r, _, h1, h2, RP_cols HR h3, ?_⟩
            · obtain ⟨vl, l, hv, hin⟩ := hx.al.left
              exact ⟨vl, l, hv.grown hg (fun e => by have := hne _ e; omega), hin⟩
            · refine ⟨hg.os.trans hx.al.grown.os, hg.tape.trans hx.al.grown.tape, hg.output.trans hx.al.grown.output, Nat.le_trans hx.al.grown.size hg.size, fun q hq hqp => (hg.block q (Nat.lt_of_lt_of_le hq hx.al.grown.size) (fun e => by have := hne _ e; omega)).trans (hx.al.grown.block q hq hqp)⟩
            · rw [roCells_append]
              exact hown'
          obtain ⟨r7, vc7, _, _, _, hown7⟩ := h7
          obtain ⟨a7, c7, rfl⟩ := ownsRow_shape hown7
          clear hC7 hG7 hown7
          simp only [Act.put, List.setIfInBounds_toArray, List.set_cons_zero, List.set_cons_succ]
          refine relE_quiet rfl rfl rfl rfl ?_; intro K hK; go_big_quiet_op; (first | refine ⟨_, fun _ _ => rfl, hK _ ?_⟩ | refine hK _ ?_); clear hK K
          refine relE_tail rfl rfl fun x hx hG => ?_
          obtain ⟨r, vc, h1, h2, h3, hown'⟩ := (hG 7).2 rfl
          clear hG
          obtain ⟨q0, q1, q2⟩ := hx.al.box.pa
          have qf := hx.al.box.free 2
          go_wp2_with fail
          go_roundw
          case rel =>
            refine ⟨k + 1, gone, qs ++ [(r, vc)], _, by omega, by go_num, hgo, ?_, hx.al.box.set 2 _, hx.al.res.other (by omega) 2 _, hx.al.left.other (by omega), grownBy_new hx.al.grown (Nat.le_succ _), ?_, ?_⟩
            · rw [List.map_append]
              exact hgr.put h2 h1
            · rw [List.length_append]
              exact ownsRow_setCell_below hown' (a := ⟨w.heap.size + 1, 2, none⟩) (by show w.heap.size + 1 < w.heap.size + 2; omega) _
            · intro q hq
              rcases List.mem_append.1 hq with hq | hq
              · exact TIn.set 2 _ hx.al.box (by decide) (hx.al.typed q hq)
              · rw [List.mem_singleton.1 hq]
                exact TIn.set 2 _ hx.al.box (by decide) h3
          case measure => simp [intOf] <;> omega
        · go_roundw
          case rel => exact ⟨k + 1, gone, qs, vo, by omega, by go_num, hgo, hgr.skip, hal⟩
          case measure => simp [intOf] <;> omega
      · obtain rfl : k = 4 := by omega
        obtain ⟨y0, y1, y2⟩ := hal.box.pa
        have hres := hal.res
        obtain ⟨av, cv, rfl⟩ := ownsRow_shape hal.own
        go_wp2_with ((guard_target =~ wpList _ _ _ (Oper.mk none (Op.store _ (Operand.tmp 4) (Operand.tmp 39)) _ _ _ _ :: _) _ _); go_must (refine storeBox rfl 39 (.tmp 4) (.tmp 39) rfl (w.heap.size) _ _ _ (by rfl) (by rfl) (hres) (by kernel_rfl) (by rfl) (by simp [Value.oneCell']) ?_); intro w3 c3 g3)
        have hleft : LeftIn W w3 p := by
          obtain ⟨vl, l, hv, hin⟩ := hal.left
          exact ⟨vl, l, hv.grown g3 (fun e => by have := Option.some.inj e; omega), hin⟩
        have hgr' : w.grownBy w3 (some p) := ⟨g3.os.trans hal.grown.os, g3.tape.trans hal.grown.tape, g3.output.trans hal.grown.output, Nat.le_trans hal.grown.size g3.size, fun q hq hqp => (g3.block q (Nat.lt_of_lt_of_le hq hal.grown.size) (fun e => by have := Option.some.inj e; omega)).trans (hal.grown.block q hq hqp)⟩
        have hrows : RowsT w3 (.slice av qs.length cv) qs := ⟨(TIn.own hal.own).keep g3 hres (by decide), fun q hq => (hal.typed q hq).keep g3 hres (by decide)⟩
        obtain ⟨z0, z1, z2⟩ := BoxAt.pa (k := key) (g := gone) (u := .slice av qs.length cv) c3
        refine bodyPost_ret (v := .agg #[.string key, .int .i64 gone, .slice av qs.length cv]) ?_ rfl ⟨gone, _, qs, rfl, hgo, hgr, hrows, hgr', hleft⟩
        simp [results, Tryd.results25, go_sem, Act.put, z0, z1, z2]
  · go_wp2_with fail
    clear x1 xf k1
    go_loopw [7] (fun i wr => ∃ (k : Nat) (gone : Int) (qs : List (Ro × Value)) (vo : Value), k ≤ 4 ∧ i = .int .i64 k ∧ (0 ≤ gone ∧ gone ≤ 7) ∧ GenRows k (qs.map (·.1)) ∧ PartAL W w p key wr gone qs vo) (fun i _ => 4 - (intOf i).toNat)
    case atStart => exact ⟨0, 0, [], .slice none 0 0, Nat.zero_le _, rfl, ⟨Int.le_refl 0, by decide⟩, GenRows.nil, A0⟩
    case round =>
      obtain ⟨k, gone, qs, vo, hk, rfl, hgo, hgr, hal⟩ := hrel
      by_cases hlt : k < 4
      · have hw10 : IntKind.i64.wrap (8 + (k : Int)) = 8 + (k : Int) := by rw [IntKind.wrap_i64]; omega
        have hlen : qs.length ≤ 4 := by have := hgr.len; rw [List.length_map] at this; omega
        have hwsz : w.heap.size ≤ wr.heap.size := hal.grown.size
        have hpl' : p < wr.heap.size := Nat.lt_of_lt_of_le hpl hwsz
        have t1 : decide ((k : Int) < 4) = true := by simp; omega
        go_wp2_with fail
        · refine wp_region_relE (PC W w p key wr gone qs vo) (RP p vo (w.heap.size + 2)) (Tab.atE [(1, fun v _ => v = vo), (4, fun v _ => v = .string (ik k)), (5, fun v x => ∃ (r : Ro) (vc : Value), v = (.agg #[.string r.key, .string r.live.val, .bool r.live.dead, .int .i64 r.live.at_, .int .i64 r.live.fin, .int .i64 r.gone, .int .i64 r.shade, vc]) ∧ r.key = ik k ∧ GenRow r ∧ ColsT x vc r.cols), (6, fun v x => ∃ (r : Ro) (vc : Value) (b : Nat), v = .slice (some ⟨b, 0, none⟩) 1 1 ∧ wr.heap.size ≤ b ∧ BoxAt x b (ro8 r vc) 88 ∧ r.key = ik k ∧ GenRow r ∧ ColsT x vc r.cols), (7, fun v x => ∃ (r : Ro) (vc : Value), r.key = ik k ∧ GenRow r ∧ ColsT x vc r.cols ∧ x.ownsRow (w.heap.size + 2) 88 8 v (qs.length + 1) (roCells (qs ++ [(r, vc)])))])
            (Tab.staysE ⟨fun _ _ _ _ _ _ h => h, fun _ _ _ _ _ _ h => h, fun _ _ _ _ _ hR ⟨r, vc, e, h1, h2, h3⟩ => ⟨r, vc, e, h1, h2, RP_cols hR h3⟩, fun _ _ _ _ _ hR ⟨r, vc, b, e, hb, hx, h1, h2, h3⟩ => ⟨r, vc, b, e, hb, RP_far hal.own hpl' hR hb hx, h1, h2, RP_cols hR h3⟩, fun _ hj _ _ _ hR ⟨r, vc, h1, h2, h3, h4⟩ => ⟨r, vc, h1, h2, RP_cols hR h3, RP_own hpl hj hR h4⟩, trivial⟩)
            9 (by kernel_rfl) (by kernel_rfl) (by kernel_rfl) ((⟨hal, Nat.le_refl _⟩ : PC W w p key wr gone qs vo wr).ext (Ext.refl wr).drew) ?_
          refine relE_quiet rfl rfl rfl rfl ?_; intro K hK; go_big_quiet_op; (first | refine ⟨_, fun _ _ => rfl, hK _ ?_⟩ | refine hK _ ?_); clear hK K
          refine relE_val [] rfl rfl rfl (by kernel_rfl) (fun x hx hf => ?_) ?_
          · obtain ⟨q0, q1, q2⟩ := hx.al.box.pa
            go_simp
            exact ⟨hx, RP_ext (W := W) (by decide) hx.al.left (Ext.refl x), rfl⟩
          simp only [Act.put, List.setIfInBounds_toArray, List.set_cons_zero, List.set_cons_succ]
          refine relE_quiet rfl rfl rfl rfl ?_; intro K hK; go_big_quiet_op; (first | refine ⟨_, fun _ _ => rfl, hK _ ?_⟩ | refine hK _ ?_); clear hK K
          refine relE_quiet rfl rfl rfl rfl ?_; intro K hK; go_big_quiet_op; (first | refine ⟨_, fun _ _ => rfl, hK _ ?_⟩ | refine hK _ ?_); clear hK K
          refine relE_val [] rfl rfl rfl (by kernel_rfl) (fun x hx hf => ?_) ?_
          · go_simp
            exact (rint_any (k : Int) x).mono fun e y ⟨he, hy⟩ => ⟨_, he, hx.ext hy, RP_ext (W := W) (by decide) hx.al.left hy, rfl⟩
          simp only [Act.put, List.setIfInBounds_toArray, List.set_cons_zero, List.set_cons_succ]
          refine relE_fact [] rfl rfl rfl (by kernel_rfl) (fun x hx hf => ?_) (fun v5 x5 hC5 hG5 h5 => ?_)
          · go_simp
            exact (lrow_any W p hp (ik k) x (hW.grown hx.al.grown (fun q hq => by cases hq; exact hp)) hx.al.left).mono fun e y ⟨r, vc, he, hk', hr, ho, hg, hl⟩ => ⟨_, he, PartAL.call hpl hx hg hl, by unfold RP; rw [if_neg (by decide)]; exact ⟨hx.al.left.box, hg⟩, r, vc, rfl, hk', hr, TIn.own ho⟩
          obtain ⟨r5, vc5, rfl, hk5, hr5, hc5⟩ := h5
          clear hC5 hG5 hk5 hr5 hc5
          simp only [Act.put, List.setIfInBounds_toArray, List.set_cons_zero, List.set_cons_succ]
          refine relE_fact [5] rfl rfl rfl (by kernel_rfl) (fun x hx hf => ?_) (fun v6 x6 hC6 hG6 h6 => ?_)
          · obtain ⟨r, vc, e, h1, h2, h3⟩ := (hf 5 (by simp)).2 rfl
            go_simp
            refine ⟨hx.ext ((Ext.refl x).alloc _), RP_ext (W := W) (by decide) hx.al.left ((Ext.refl x).alloc _), r, vc, _, rfl, hx.size, ?_, h1, h2, h3.ext ((Ext.refl x).alloc _)⟩
            rw [h1]
            exact BoxAt.made x _ _
          obtain ⟨r6, vc6, b6, rfl, hb6, _⟩ := h6
          clear hC6 hG6
          simp only [Act.put, List.setIfInBounds_toArray, List.set_cons_zero, List.set_cons_succ]
          refine relE_fact [6] rfl rfl rfl (by kernel_rfl) (fun x hx hf => ?_) (fun v7 x7 hC7 hG7 h7 => ?_)
          · obtain ⟨r, vc, b, e, _, hbox, h1, h2, h3⟩ := (hf 6 (by simp)).2 rfl
            cases e
            obtain ⟨av, cv, rfl⟩ := TIn.shape h3
            refine yields_append info_Row und_Rows rfl (by decide) (.tmp 31) (.tmp 36) rfl (w.heap.size + 2) (by have := hx.al.box.lt; omega) vo qs.length (roCells qs) hx.al.own (by rfl) b6 1 1 (ro8 r (.slice av r.cols.length cv)).toList (by rfl) (by rfl) (fun j u hj => by rw [hbox.cell j]; simpa using hj) (by simp [ro8, Value.oneCell']) (by unfold maxLen; omega) (by omega) ?_
            intro v' y hown' hg hkeep
            have hne : ∀ q, some q = vo.ownBlock → w.heap.size + 2 ≤ q := fun q hq => (hx.al.own.lt q hq.symm).1
            have HR : RP p vo (w.heap.size + 2) 7 x y := by unfold RP; rw [if_pos rfl]; exact ⟨⟨_, _, hx.al.own⟩, hg⟩
            refine ⟨⟨⟨hx.al.box.grown hg (fun e => by have := hne _ e; omega), hx.al.res.grown hg (fun e => by have := hne _ e; omega), ?_, ?_, hkeep, fun q hq => RP_cols HR (hx.al.typed q hq)⟩, Nat.le_trans hx.size hg.size⟩, HR, r, _, h1, h2, RP_cols HR h3, ?_⟩
            · obtain ⟨vl, l, hv, hin⟩ := hx.al.left
              exact ⟨vl, l, hv.grown hg (fun e => by have := hne _ e; omega), hin⟩
            · refine ⟨hg.os.trans hx.al.grown.os, hg.tape.trans hx.al.grown.tape, hg.output.trans hx.al.grown.output, Nat.le_trans hx.al.grown.size hg.size, fun q hq hqp => (hg.block q (Nat.lt_of_lt_of_le hq hx.al.grown.size) (fun e => by have := hne _ e; omega)).trans (hx.al.grown.block q hq hqp)⟩
            · rw [roCells_append]
              exact hown'
          obtain ⟨r7, vc7, _, _, _, hown7⟩ := h7
          obtain ⟨a7, c7, rfl⟩ := ownsRow_shape hown7
          clear hC7 hG7 hown7
          simp only [Act.put, List.setIfInBounds_toArray, List.set_cons_zero, List.set_cons_succ]
          refine relE_quiet rfl rfl rfl rfl ?_; intro K hK; go_big_quiet_op; (first | refine ⟨_, fun _ _ => rfl, hK _ ?_⟩ | refine hK _ ?_); clear hK K
          refine relE_tail rfl rfl fun x hx hG => ?_
          obtain ⟨r, vc, h1, h2, h3, hown'⟩ := (hG 7).2 rfl
          clear hG
          obtain ⟨q0, q1, q2⟩ := hx.al.box.pa
          have qf := hx.al.box.free 2
          go_wp2_with fail
          go_roundw
          case rel =>
            refine ⟨k + 1, gone, qs ++ [(r, vc)], _, by omega, by go_num, hgo, ?_, hx.al.box.set 2 _, hx.al.res.other (by omega) 2 _, hx.al.left.other (by omega), grownBy_new hx.al.grown (Nat.le_succ _), ?_, ?_⟩
            · rw [List.map_append]
              exact hgr.put h2 h1
            · rw [List.length_append]
              exact ownsRow_setCell_below hown' (a := ⟨w.heap.size + 1, 2, none⟩) (by show w.heap.size + 1 < w.heap.size + 2; omega) _
            · intro q hq
              rcases List.mem_append.1 hq with hq | hq
              · exact TIn.set 2 _ hx.al.box (by decide) (hx.al.typed q hq)
              · rw [List.mem_singleton.1 hq]
                exact TIn.set 2 _ hx.al.box (by decide) h3
          case measure => simp [intOf] <;> omega
        · go_roundw
          case rel => exact ⟨k + 1, gone, qs, vo, by omega, by go_num, hgo, hgr.skip, hal⟩
          case measure => simp [intOf] <;> omega
      · obtain rfl : k = 4 := by omega
        obtain ⟨y0, y1, y2⟩ := hal.box.pa
        have hres := hal.res
        obtain ⟨av, cv, rfl⟩ := ownsRow_shape hal.own
        go_wp2_with ((guard_target =~ wpList _ _ _ (Oper.mk none (Op.store _ (Operand.tmp 4) (Operand.tmp 39)) _ _ _ _ :: _) _ _); go_must (refine storeBox rfl 39 (.tmp 4) (.tmp 39) rfl (w.heap.size) _ _ _ (by rfl) (by rfl) (hres) (by kernel_rfl) (by rfl) (by simp [Value.oneCell']) ?_); intro w3 c3 g3)
        have hleft : LeftIn W w3 p := by
          obtain ⟨vl, l, hv, hin⟩ := hal.left
          exact ⟨vl, l, hv.grown g3 (fun e => by have := Option.some.inj e; omega), hin⟩
        have hgr' : w.grownBy w3 (some p) := ⟨g3.os.trans hal.grown.os, g3.tape.trans hal.grown.tape, g3.output.trans hal.grown.output, Nat.le_trans hal.grown.size g3.size, fun q hq hqp => (g3.block q (Nat.lt_of_lt_of_le hq hal.grown.size) (fun e => by have := Option.some.inj e; omega)).trans (hal.grown.block q hq hqp)⟩
        have hrows : RowsT w3 (.slice av qs.length cv) qs := ⟨(TIn.own hal.own).keep g3 hres (by decide), fun q hq => (hal.typed q hq).keep g3 hres (by decide)⟩
        obtain ⟨z0, z1, z2⟩ := BoxAt.pa (k := key) (g := gone) (u := .slice av qs.length cv) c3
        refine bodyPost_ret (v := .agg #[.string key, .int .i64 gone, .slice av qs.length cv]) ?_ rfl ⟨gone, _, qs, rfl, hgo, hgr, hrows, hgr', hleft⟩
        simp [results, Tryd.results25, go_sem, Act.put, z0, z1, z2]
end Go.Proofs.YtfagnbofnaoncaaDoor

/- Made, Several: partitions by numbers. (what a smaller cut has) -/
namespace Go.Proofs.YtfagnbofnaoncaaDoor
open Go Go.RowKit
attribute [local go_sem] yields yUpon ro8 pa3

/-- A partition by numbers, of a key. -/
structure GenPa (key : ByteArray) (p : Pa) : Prop where
  key : p.key = key
  gone : 0 ≤ p.gone ∧ p.gone ≤ 7
  rows : GenRows 4 (p.ps.map (·.1))
end Go.Proofs.YtfagnbofnaoncaaDoor
