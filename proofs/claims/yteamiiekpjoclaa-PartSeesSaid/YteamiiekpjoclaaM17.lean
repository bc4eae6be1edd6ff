/- project.pick, project.of where a row is in the view. -/
import Derived.Test.YteamiiekpjoclaaM14
import Derived.Test.YteamiiekpjoclaaM16
import Derived.Test.YteamiiekpjoclaaM1
import Derived.Test.YteamiiekpjoclaaM6
import Derived.Lib.SliceRun
namespace Go.Proofs.Yteamiiekpjoclaa
open Go Go.RowKit
attribute [local go_sem] yields yUpon ro8 pa3 vw5 cl4

set_option maxRecDepth 100000 in
set_option maxHeartbeats 2000000 in
theorem pick_any (x : Vw) (u : Value) (ns : List ByteArray) (v : Value) (l : List Co) (w : World) (hin : ColsIn w v l) (hlen : l.length ≤ 1000000) (hns : StrsIn w u ns) :
    Calls Try.prog 96 #[.agg #[.string x.name, .int .i64 x.id, .string x.table, .string x.on, u], v] w fun e w' => ∃ v', e = .returned v' ∧ w'.ownsRow w.heap.size 58 5 v' (l.filter (keeps ns)).length (coCells (l.filter (keeps ns))) ∧ Ext w w' := by
  have hin1 := hin.ext ((Ext.refl w).alloc (.cells (vw5 x u) 31))
  have hX1 := (Ext.refl w).alloc (.cells (vw5 x u) 31)
  go_enter Try.func96, Try.ntmps96
  go_wp2_with (at_builtin; go_must (refine appCols (w.alloc (.cells (vw5 x u) 31)) rfl (.const (.slice none 0 0)) (.tmp 9) rfl w.heap.size hX1.le _ [] (World.ownsRow_nil _ _ _ _) (by rfl) _ l hin1 (by rfl) (by simp; omega) ?_); intro v3 w3 hown3 hg3)
  have hX3 : Ext w w3 := hX1.grown hg3 (fun q hq => by cases hq)
  rw [List.nil_append] at hown3
  refine (deleteFunc_any v3 l u ns w.heap.size w3 hX3.le hlen hown3 (fun w' hg => hns.ext (hX3.grown hg (fun q hq => (hown3.lt q hq).1)))).mono ?_
  rintro e w4 ⟨v', rfl, hown4, hg4⟩
  go_wp2
  go_ret
  exact ⟨_, rfl, hown4, hX3.grown hg4 (fun q hq => (hown3.lt q hq).1)⟩

/-- What stays true in the last region of project.of. -/
structure OC (w w1 w2 : World) (x : Vw) (u : Value) (c : Cl) (q : Nat) (y : World) : Prop where
  view : BoxAt y w.heap.size (vw5 x u) 31
  cell : BoxAt y w1.heap.size (cl4 c) 52
  res : ∃ k g r, BoxAt y q (pa3 k g r) 39
  grown : w2.grownBy y (some q)
theorem OC.ext {w w1 w2 : World} {x : Vw} {u : Value} {c : Cl} {q : Nat} {y z : World} (hE : Ext y z) (h : OC w w1 w2 x u c q y) : OC w w1 w2 x u c q z :=
  ⟨h.view.ext hE, h.cell.ext hE, let ⟨k, g, r, hb⟩ := h.res; ⟨k, g, r, hb.ext hE⟩, grownBy_ext h.grown hE⟩
def OE (q : Nat) (j : Nat) (x y : World) : Prop := if j = 14 then x.grownBy y (some q) else Ext x y
theorem OE_ext {q j : Nat} {x y : World} (hj : j ≠ 14) (h : Ext x y) : OE q j x y := by unfold OE; rw [if_neg hj]; exact h
theorem OE_grown {q j : Nat} {x y : World} (h : OE q j x y) : x.grownBy y (some q) := by
  unfold OE at h
  split at h
  · exact h
  · exact grownBy_ext (grownBy_refl x _) h

theorem OE_own {x y : World} {q B : Nat} (hq : q < B) (h : x.grownBy y (some q)) {v : Value} {m : Nat} {xs : List Value} (hx : x.ownsRow B 58 5 v m xs) : y.ownsRow B 58 5 v m xs := by
  refine hx.kept h ?_
  cases e : v.ownBlock with
  | none => exact .inl rfl
  | some g => exact .inr (fun h => by have := (hx.lt g e).1; have := Option.some.inj h; omega)
set_option maxRecDepth 100000 in
set_option maxHeartbeats 8000000 in
theorem of_some (x : Vw) (u : Value) (ns : List ByteArray) (pk : ByteArray) (pg : Int) (pu : Value) (r : Ro) (v cv : Value) (lc : List Co) (w : World) (hin : ColsIn w v r.cols) (hcv : ColsIn w cv lc) (hlc : lc.length ≤ 1000000) (hns : StrsIn w u ns)
    (hb : bestB (cellOf r.cols x.on) (max r.gone pg) = true) (hk : pk.size ≤ 10000000) (hr : r.key.size ≤ 10000000) (hkl : (vkey pk r.key).size ≤ 400) :
    Calls Try.prog 66 #[.agg #[.string x.name, .int .i64 x.id, .string x.table, .string x.on, u], .agg #[.string pk, .int .i64 pg, pu], (.agg #[.string r.key, .string r.live.val, .bool r.live.dead, .int .i64 r.live.at_, .int .i64 r.live.fin, .int .i64 r.gone, .int .i64 r.shade, v]), cv] w fun e w' =>
      ∃ (b : Nat) (v' : Value), e = .returned (.tuple #[.agg #[.string (cellOf r.cols x.on).val, .int .i64 0, .slice (some ⟨b, 0, none⟩) 1 1], .bool true]) ∧ w.heap.size ≤ b ∧
        BoxAt w' b (ro8 ⟨vkey pk r.key, ⟨⟨#[]⟩, false, (cellOf r.cols x.on).at_, (cellOf r.cols x.on).fin⟩, 0, 0, lc.filter (keeps ns)⟩ v') 55 ∧ w'.ownsRow w.heap.size 58 5 v' (lc.filter (keeps ns)).length (coCells (lc.filter (keeps ns))) ∧ Ext w w' := by
  obtain ⟨c, hc⟩ : ∃ c, c = cellOf r.cols x.on := ⟨_, rfl⟩
  rw [← hc] at hb ⊢
  have hbc : bestC c (max r.gone pg) = c := by unfold bestC; rw [if_pos hb]
  obtain ⟨L, hL⟩ : ∃ L, L = lc.filter (keeps ns) := ⟨_, rfl⟩
  rw [← hL]
  obtain ⟨key, hkey⟩ : ∃ key, key = vkey pk r.key := ⟨_, rfl⟩
  rw [← hkey] at hkl ⊢
  have HB := Lib.hid hb
  have HC := Lib.hid hbc
  have Hc := Lib.hid hc
  have HL := Lib.hid hL
  have HK := Lib.hid hkey
  have k4 : decide ((400 : Int) < (key.size : Int)) = false := by simp; omega
  clear hb hbc hc hL hkey hkl
  obtain ⟨a0, a1, a2, a3, hE⟩ := boxes4 w (vw5 x u) (pa3 pk pg pu) (ro8 r v) (pa3 ⟨#[]⟩ 0 (.slice none 0 0)) 31 39 55 39
  have hin' := hin.ext hE
  go_enter Try.func66, Try.ntmps66
  go_wp2_with fail
  refine (best_any r v pg x.on _ hin').mono ?_
  rw [← Hc.out, HB.out, HC.out]
  rintro e w1 ⟨rfl, hE1⟩
  replace a0 := a0.ext hE1
  replace a1 := a1.ext hE1
  replace a2 := a2.ext hE1
  replace a3 := a3.ext hE1
  replace hE := hE.trans hE1
  clear hE1 hin' hin
  have y1 := a1.allocs
  have y2 := a2.allocs
  have l3 := a3.lt
  go_wp2_with fail
  refine (key_any pk r.key _ hk hr).mono ?_
  rw [← HK.out]
  rintro e w2 ⟨rfl, hE2⟩
  have b0 := (a0.ext ((Ext.refl _).alloc (.cells (cl4 c) 52))).ext hE2
  have b3 := (a3.ext ((Ext.refl _).alloc (.cells (cl4 c) 52))).ext hE2
  have bc := (BoxAt.made w1 (cl4 c) 52).ext hE2
  have hX := (hE.alloc (.cells (cl4 c) 52)).trans hE2
  have lc1 := bc.lt
  have hws := hX.le
  clear y1 y2 a0 a1 a2 a3 hE hE2
  go_wp2_with fail
  have hqs : (w.heap.size + 1 + 1 + 1) < w2.heap.size := b3.lt
  refine wp_region_relE (OC w w1 w2 x u c (w.heap.size + 1 + 1 + 1)) (OE (w.heap.size + 1 + 1 + 1)) (Tab.atE [(1, fun v _ => v = .string c.val), (4, fun v _ => v = .int .i64 c.at_), (6, fun v _ => v = .int .i64 c.fin), (8, fun v _ => v = .agg (vw5 x u)), (10, fun v y => y.ownsRow w2.heap.size 58 5 v L.length (coCells L)),
      (12, fun v y => ∃ (b : Nat) (v' : Value), v = .slice (some ⟨b, 0, none⟩) 1 1 ∧ w2.heap.size ≤ b ∧ BoxAt y b (ro8 ⟨key, ⟨⟨#[]⟩, false, c.at_, c.fin⟩, 0, 0, L⟩ v') 55 ∧ y.ownsRow w2.heap.size 58 5 v' L.length (coCells L)),
      (14, fun _ y => ∃ (b : Nat) (v' : Value), BoxAt y (w.heap.size + 1 + 1 + 1) (pa3 c.val 0 (.slice (some ⟨b, 0, none⟩) 1 1)) 39 ∧ w2.heap.size ≤ b ∧ BoxAt y b (ro8 ⟨key, ⟨⟨#[]⟩, false, c.at_, c.fin⟩, 0, 0, L⟩ v') 55 ∧ y.ownsRow w2.heap.size 58 5 v' L.length (coCells L))])
    (Tab.staysE ⟨fun _ _ _ _ _ _ h => h, fun _ _ _ _ _ _ h => h, fun _ _ _ _ _ _ h => h, fun _ _ _ _ _ _ h => h, fun j _ v y z hR h => OE_own hqs (OE_grown hR) h,
      fun j _ v y z hR ⟨b, v', e, hb, h1, h2⟩ => ⟨b, v', e, hb, h1.grown (OE_grown hR) (fun e => by have := Option.some.inj e; omega), OE_own hqs (OE_grown hR) h2⟩,
      fun j hj v y z hR ⟨b, v', h0, hb, h1, h2⟩ => by
        unfold OE at hR
        rw [if_neg hj] at hR
        exact ⟨b, v', h0.ext hR, hb, h1.ext hR, ownsRow_ext h2 hR⟩, trivial⟩)
    16 (by kernel_rfl) (by kernel_rfl) (by kernel_rfl) ((⟨b0, bc, ⟨_, _, _, b3⟩, grownBy_refl w2 _⟩ : OC w w1 w2 x u c (w.heap.size + 1 + 1 + 1) w2).ext (Ext.refl w2).drew) ?_
  refine relE_quiet rfl rfl rfl rfl ?_; intro K hK; go_big_quiet_op; (first | refine ⟨_, fun _ _ => rfl, hK _ ?_⟩ | refine hK _ ?_); clear hK K
  refine relE_val [] rfl rfl rfl (by kernel_rfl) (fun z hz hf => ?_) ?_
  · have c0 := hz.cell.cl.1
    go_simp
    exact ⟨hz, OE_ext (by decide) (Ext.refl z), rfl⟩
  simp only [Act.put, List.setIfInBounds_toArray, List.set_cons_zero, List.set_cons_succ]
  refine relE_quiet rfl rfl rfl rfl ?_; intro K hK; go_big_quiet_op; (first | refine ⟨_, fun _ _ => rfl, hK _ ?_⟩ | refine hK _ ?_); clear hK K
  refine relE_quiet rfl rfl rfl rfl ?_; intro K hK; go_big_quiet_op; (first | refine ⟨_, fun _ _ => rfl, hK _ ?_⟩ | refine hK _ ?_); clear hK K
  refine relE_val [] rfl rfl rfl (by kernel_rfl) (fun z hz hf => ?_) ?_
  · have c0 := hz.cell.cl.2.2.1
    go_simp
    exact ⟨hz, OE_ext (by decide) (Ext.refl z), rfl⟩
  simp only [Act.put, List.setIfInBounds_toArray, List.set_cons_zero, List.set_cons_succ]
  refine relE_quiet rfl rfl rfl rfl ?_; intro K hK; go_big_quiet_op; (first | refine ⟨_, fun _ _ => rfl, hK _ ?_⟩ | refine hK _ ?_); clear hK K
  refine relE_val [] rfl rfl rfl (by kernel_rfl) (fun z hz hf => ?_) ?_
  · have c0 := hz.cell.cl.2.2.2
    go_simp
    exact ⟨hz, OE_ext (by decide) (Ext.refl z), rfl⟩
  simp only [Act.put, List.setIfInBounds_toArray, List.set_cons_zero, List.set_cons_succ]
  refine relE_quiet rfl rfl rfl rfl ?_; intro K hK; go_big_quiet_op; (first | refine ⟨_, fun _ _ => rfl, hK _ ?_⟩ | refine hK _ ?_); clear hK K
  refine relE_val [] rfl rfl rfl (by kernel_rfl) (fun z hz hf => ?_) ?_
  · obtain ⟨c0, c1, c2, c3, c4⟩ := hz.view.vw
    go_simp
    exact ⟨hz, OE_ext (by decide) (Ext.refl z), rfl⟩
  simp only [Act.put, List.setIfInBounds_toArray, List.set_cons_zero, List.set_cons_succ]
  refine relE_quiet rfl rfl rfl rfl ?_; intro K hK; go_big_quiet_op; (first | refine ⟨_, fun _ _ => rfl, hK _ ?_⟩ | refine hK _ ?_); clear hK K
  refine relE_fact [] rfl rfl rfl (by kernel_rfl) (fun z hz hf => ?_) (fun v10 z10 hC10 hG10 h10 => ?_)
  · have hXz : Ext w z := hX.grown hz.grown (fun q hq => by cases hq; omega)
    go_simp
    refine (pick_any x u ns cv lc z (hcv.ext hXz) hlc (hns.ext hXz)).mono ?_
    rintro e z' ⟨v', he, hown, hEz⟩
    rw [← HL.out] at hown
    exact ⟨_, he, hz.ext hEz, OE_ext (by decide) hEz, ownsRow_base hown hz.grown.size⟩
  obtain ⟨a10, c10, rfl⟩ := own_shape h10
  clear hC10 hG10 h10
  simp only [Act.put, List.setIfInBounds_toArray, List.set_cons_zero, List.set_cons_succ]
  refine relE_quiet rfl rfl rfl rfl ?_; intro K hK; go_big_quiet_op; (first | refine ⟨_, fun _ _ => rfl, hK _ ?_⟩ | refine hK _ ?_); clear hK K
  refine relE_fact [10] rfl rfl rfl (by kernel_rfl) (fun z hz hf => ?_) (fun v12 z12 hC12 hG12 h12 => ?_)
  · have h10 := (hf 10 (by simp)).2 rfl
    go_simp
    refine ⟨hz.ext ((Ext.refl z).alloc _), OE_ext (by decide) ((Ext.refl z).alloc _), ?_⟩
    exact ⟨z.heap.size, rfl, hz.grown.size, .slice a10 L.length c10, BoxAt.made z _ _, ownsRow_ext h10 ((Ext.refl z).alloc _)⟩
  obtain ⟨b12, v12', rfl, _, _, _⟩ := h12
  clear hC12 hG12
  simp only [Act.put, List.setIfInBounds_toArray, List.set_cons_zero, List.set_cons_succ]
  refine relE_quiet rfl rfl rfl rfl ?_; intro K hK; go_big_quiet_op; (first | refine ⟨_, fun _ _ => rfl, hK _ ?_⟩ | refine hK _ ?_); clear hK K
  refine relE_fact [12] rfl rfl rfl (by kernel_rfl) (fun z hz hf => ?_) (fun v14 z14 hC14 hG14 h14 => ?_)
  · obtain ⟨b, v', e, hb, h1, h2⟩ := (hf 12 (by simp)).2 rfl
    cases e
    obtain ⟨k', g', r', hq'⟩ := hz.res
    refine yields_storeBox 39 (.tmp 8) (.tmp 48) rfl (w.heap.size + 1 + 1 + 1) (pa3 c.val 0 (.slice (some ⟨b12, 0, none⟩) 1 1)) _ 39 (by rfl) (by rfl) hq' (by kernel_rfl) (by rfl) (by simp [pa3, Value.oneCell']) ?_
    intro z' hz' hg'
    exact ⟨⟨hz.view.grown hg' (fun e => by have := Option.some.inj e; omega), hz.cell.grown hg' (fun e => by have := Option.some.inj e; omega), ⟨_, _, _, hz'⟩, grownBy_trans hz.grown hg'⟩, by unfold OE; rw [if_pos rfl]; exact hg', b12, v', hz', hb, h1.grown hg' (fun e => by have := Option.some.inj e; omega), OE_own hqs hg' h2⟩
  clear hC14 hG14 h14 z14
  simp only [Act.put, List.setIfInBounds_toArray, List.set_cons_zero, List.set_cons_succ]
  refine relE_quiet rfl rfl rfl rfl ?_; intro K hK; go_big_quiet_op; (first | refine ⟨_, fun _ _ => rfl, hK _ ?_⟩ | refine hK _ ?_); clear hK K
  refine relE_nil fun z hz hG => ?_
  obtain ⟨b, v', h0, hb, h1, h2⟩ := (hG 14).2 rfl
  have hXz : Ext w z := hX.grown hz.grown (fun q hq => by cases hq; omega)
  clear hG hz
  go_wp2_with fail
  have z0 := h0.cell 0
  have z1 := h0.cell 1
  have z2 := h0.cell 2
  simp [pa3] at z0 z1 z2
  refine bodyPost_ret (v := .tuple #[.agg #[.string c.val, .int .i64 0, .slice (some ⟨b, 0, none⟩) 1 1], .bool true]) ?_ rfl ⟨b, v', rfl, by omega, h1, ownsRow_base h2 hws, hXz⟩
  simp [results, Try.results66, go_sem, Act.put, z0, z1, z2]
end Go.Proofs.Yteamiiekpjoclaa

/- slices.Clone of columns; delta.cellOf. -/
namespace Go.Proofs.Yteamiiekpjoclaa
open Go Go.RowKit
attribute [local go_sem] yields yUpon ro8 pa3 vw5 cl4

set_option maxRecDepth 100000 in
set_option maxHeartbeats 2000000 in
theorem clone_any (v : Value) (l : List Co) (w : World) (hin : ColsIn w v l) (hl : l.length ≤ 1000000) :
    Calls Try.prog 61 #[v] w fun e w' => ∃ v', e = .returned v' ∧ w'.ownsRow w.heap.size 58 5 v' l.length (coCells l) ∧ Ext w w' := by
  have hin0 := hin
  obtain ⟨a, c, rfl, hc, hcm, ha, _⟩ := hin
  have he := Lib.run_eql_slice_nil (P := Try.prog) w 53 58 a l.length c 0 0 und_Cols
  cases a with
  | none =>
    have hc0 := ha rfl
    obtain rfl : l = [] := List.eq_nil_of_length_eq_zero (by omega)
    subst hc0
    clear ha
    go_enter Try.func61, Try.ntmps61
    go_wp2_with fail
    simp only [List.length_nil] at he
    rw [he]
    simp only [Result.andThen]
    rw [Oper.upon_value]
    go_wp2_with fail
    go_ret
    exact ⟨_, rfl, World.ownsRow_nil _ _ _ _, Ext.refl w⟩
  | some ad =>
    have hX := (Ext.refl w).alloc (.cells #[] 58)
    have hm : (w.alloc (.cells #[] 58)).ownsRow w.heap.size 58 5 (.slice (some ⟨w.heap.size, 0, none⟩) 0 0) ([] : List Co).length (coCells []) := World.ownsRow_made w #[] 0 (Nat.le_refl _) (Nat.zero_le _) rfl
    clear ha
    go_enter Try.func61, Try.ntmps61
    go_wp2_with (at_builtin; go_must (refine appCols (w.alloc (.cells #[] 58)) rfl (.tmp 5) (.tmp 6) rfl w.heap.size hX.le _ [] hm (by rfl) _ l (hin0.ext hX) (by rfl) (by simp; omega) ?_); intro v3 w3 hown3 hg3)
    go_ret
    exact ⟨_, rfl, hown3, hX.grown hg3 (fun q hq => (hm.lt q hq).1)⟩

/-- A row's cell of a view's column as its one column, if it has one. -/
def cellL (x : Vw) (r : Ro) : List Co := if (cellOf r.cols x.on).at_ < 1 then [] else [⟨x.on, cellOf r.cols x.on⟩]
set_option maxRecDepth 100000 in
set_option maxHeartbeats 2000000 in
theorem cellOf_any (x : Vw) (u : Value) (r : Ro) (v : Value) (w : World) (hin : ColsIn w v r.cols) :
    Calls Try.prog 79 #[.agg #[.string x.name, .int .i64 x.id, .string x.table, .string x.on, u], (.agg #[.string r.key, .string r.live.val, .bool r.live.dead, .int .i64 r.live.at_, .int .i64 r.live.fin, .int .i64 r.gone, .int .i64 r.shade, v])] w fun e w' => ∃ a c, e = .returned (.slice a (cellL x r).length c) ∧ ColsT w' (.slice a (cellL x r).length c) (cellL x r) ∧ Ext w w' := by
  obtain ⟨a0, a1, hE⟩ := boxes2 w (vw5 x u) (ro8 r v) 31 55
  have hin' := hin.ext hE
  obtain ⟨c, hc⟩ : ∃ c, c = cellOf r.cols x.on := ⟨_, rfl⟩
  have hL : cellL x r = if c.at_ < 1 then [] else [⟨x.on, c⟩] := by rw [hc]; rfl
  have Hc := Lib.hid hc
  have HL := Lib.hid hL
  clear hc hL
  go_enter Try.func79, Try.ntmps79
  go_wp2_with fail
  refine (rcell_any r v x.on _ hin').mono ?_
  rw [← Hc.out]
  rintro e w1 ⟨rfl, hE1⟩
  have y := (a0.ext hE1).allocs
  have hX := (hE.trans hE1).alloc (.cells (cl4 c) 52)
  clear a0 a1 hE hE1 hin hin'
  cases d : decide (c.at_ < 1)
  · have e1 : cellL x r = [⟨x.on, c⟩] := by rw [HL.out, if_neg (by simpa using d)]
    have HE := Lib.hid e1
    clear e1
    go_wp2_with fail
    go_ret
    rw [HE.out]
    refine ⟨_, _, rfl, ?_, hX.alloc _⟩
    exact TIn.box (xs := coCells [⟨x.on, c⟩]) (BoxAt.madeN (co5 ⟨x.on, c⟩) 58 (by simp)) (by unfold maxLen; show 1 ≤ 2 ^ 63 - 1; decide)
  · have e1 : cellL x r = [] := by rw [HL.out, if_pos (by simpa using d)]
    have HE := Lib.hid e1
    clear e1
    go_wp2_with fail
    go_ret
    rw [HE.out]
    exact ⟨_, _, rfl, ColsT.nil _, hX⟩
end Go.Proofs.Yteamiiekpjoclaa

/- part.Row. -/
namespace Go.Proofs.Yteamiiekpjoclaa
open Go Go.RowKit
attribute [local go_sem] yields yUpon ro8 pa3

/-- A partition's row. -/
def rowOf : List Ro → ByteArray → Ro
  | [], key => ⟨key, zeroCl, 0, 0, []⟩
  | r :: l, key => if r.key.toList == key.toList then r else rowOf l key
def hasRow : List Ro → ByteArray → Bool
  | [], _ => false
  | r :: l, key => if r.key.toList == key.toList then true else hasRow l key

set_option maxRecDepth 100000 in
set_option maxHeartbeats 4000000 in
theorem prow_typed (pk : ByteArray) (pg : Int) (pu : Value) (ps : List (Ro × Value)) (key : ByteArray) (w : World) (hin : RowsIn w pu ps) (hcl : ∀ p ∈ ps, p.1.cols.length ≤ 1000000) :
    Calls Try.prog 24 #[.agg #[.string pk, .int .i64 pg, pu], .string key] w fun e w' => ∃ v', e = .returned (.tuple #[(.agg #[.string (rowOf (ps.map (·.1)) key).key, .string (rowOf (ps.map (·.1)) key).live.val, .bool (rowOf (ps.map (·.1)) key).live.dead, .int .i64 (rowOf (ps.map (·.1)) key).live.at_, .int .i64 (rowOf (ps.map (·.1)) key).live.fin, .int .i64 (rowOf (ps.map (·.1)) key).gone, .int .i64 (rowOf (ps.map (·.1)) key).shade, v']), .bool (hasRow (ps.map (·.1)) key)]) ∧ ColsT w' v' (rowOf (ps.map (·.1)) key).cols ∧ Ext w w' := by
  obtain ⟨a0, a1, hE⟩ := boxes2 w (pa3 pk pg pu) (ro8 ⟨⟨#[]⟩, zeroCl, 0, 0, []⟩ (.slice none 0 0)) 39 55
  obtain ⟨aa, ca, rfl, hca, hcma, hget⟩ := hin.get
  obtain ⟨n, hn⟩ : ∃ n, n = ps.length := ⟨_, rfl⟩
  rw [← hn] at hca a0 a1 hE ⊢
  have HN := Lib.hid hn
  have HGET := Lib.hid hget
  have HC := Lib.hid hin.cols
  have HCL := Lib.hid hcl
  obtain ⟨R, hR⟩ : ∃ R, R = rowOf (ps.map (·.1)) key := ⟨_, rfl⟩
  obtain ⟨B, hB⟩ : ∃ B, B = hasRow (ps.map (·.1)) key := ⟨_, rfl⟩
  rw [← hR, ← hB]
  have HR := Lib.hid hR
  have HB := Lib.hid hB
  clear hn hget hin hcl hR hB
  go_enter Try.func24, Try.ntmps24
  go_wp2
  go_loopw [11] (fun i wr => ∃ k : Nat, k ≤ n ∧ i = .int .i64 k ∧ BoxAt wr (w.heap.size + 1) (ro8 ⟨⟨#[]⟩, zeroCl, 0, 0, []⟩ (.slice none 0 0)) 55 ∧ Ext w wr ∧ Hid (R = rowOf ((ps.map (·.1)).drop k) key) ∧ Hid (B = hasRow ((ps.map (·.1)).drop k) key)) (fun i _ => n - (intOf i).toNat)
  case atStart => exact ⟨0, Nat.zero_le _, rfl, a1, hE, HR.out, HB.out⟩
  case round =>
    obtain ⟨k, hk, rfl, b1, hE1, HRk, HBk⟩ := hrel
    clear a0 a1
    by_cases hlt : k < n
    · have hkp : k < ps.length := by rw [← HN.out]; exact hlt
      have hkc := HCL.out _ (List.getElem_mem hkp)
      have hcu := HC.out _ (List.getElem_mem hkp)
      obtain ⟨b, o, rfl, hat⟩ := HGET.out k hkp
      have hdrop : (ps.map (·.1)).drop k = ps[k].1 :: (ps.map (·.1)).drop (k + 1) := by
        rw [List.drop_eq_getElem_cons (by simpa using hkp)]
        simp
      obtain ⟨M, hM⟩ : ∃ M, M = ps[k].1 := ⟨_, rfl⟩
      obtain ⟨au, cu, hu⟩ := hcu.shape
      rw [← hM] at hkc hcu hu hdrop hat
      rw [hu] at hcu hat
      have HDR := Lib.hid hdrop
      clear hM hu hdrop
      obtain ⟨L, hL⟩ : ∃ L, L = M.cols := ⟨_, rfl⟩
      rw [← hL] at hcu hat hkc
      have HL := Lib.hid hL
      clear hL
      obtain ⟨m, hm⟩ : ∃ m, m = L.length := ⟨_, rfl⟩
      rw [← hm] at hcu hat
      clear hm
      replace hat := hat.ext hE1
      replace hcu := hcu.ext hE1
      obtain ⟨x0, x1, x2, x3, x4, x5, x6, x7⟩ := hat
      have hsz1 := b1.lt
      cases hkey : (M.key.toList == key.toList)
      · go_wp2_with (((guard_target =~ wpList _ _ _ (Oper.mk none (Op.store _ (Operand.tmp 7) (Operand.tmp 14)) _ _ _ _ :: _) _ _); go_must (refine storeBox rfl 55 (.tmp 7) (.tmp 14) rfl (wr.heap.size) _ _ _ (by rfl) (by rfl) ((BoxAt.made wr (ro8 ⟨⟨#[]⟩, zeroCl, 0, 0, []⟩ (.slice none 0 0)) 55)) (by kernel_rfl) (by rfl) (by simp [Value.oneCell']) ?_); intro w4 c4 g4); have hX4 : Ext wr w4 := ((Ext.refl wr).alloc _).grown g4 (fun q hq => by cases hq; omega); have d4 := c4.ro (r := ⟨M.key, M.live, M.gone, M.shade, []⟩) (v := .slice au m cu))
        go_roundw
        case rel =>
          refine ⟨k + 1, hlt, rfl, b1.ext hX4, hE1.trans hX4, ?_, ?_⟩
          · show _ = _
            rw [HRk.out, HDR.out, rowOf, if_neg (by rw [hkey]; decide)]
          · show _ = _
            rw [HBk.out, HDR.out, hasRow, if_neg (by rw [hkey]; decide)]
        case measure => simp [intOf]; omega
      · have hR : R = M := by rw [HRk.out, HDR.out, rowOf, if_pos hkey]
        have hB : B = true := by rw [HBk.out, HDR.out, hasRow, if_pos hkey]
        rw [hR, hB]
        go_wp2_with (((guard_target =~ wpList _ _ _ (Oper.mk none (Op.store _ (Operand.tmp 7) (Operand.tmp 14)) _ _ _ _ :: _) _ _); go_must (refine storeBox rfl 55 (.tmp 7) (.tmp 14) rfl (wr.heap.size) _ _ _ (by rfl) (by rfl) ((BoxAt.made wr (ro8 ⟨⟨#[]⟩, zeroCl, 0, 0, []⟩ (.slice none 0 0)) 55)) (by kernel_rfl) (by rfl) (by simp [Value.oneCell']) ?_); intro w4 c4 g4); have hX4 : Ext wr w4 := ((Ext.refl wr).alloc _).grown g4 (fun q hq => by cases hq; omega); have d4 := c4.ro (r := ⟨M.key, M.live, M.gone, M.shade, []⟩) (v := .slice au m cu))
        refine (clone_any _ L w4 (hcu.ext hX4) hkc).mono ?_
        rintro e w5 ⟨v5, rfl, hown5, hE5⟩
        obtain ⟨a5, c5', rfl⟩ := own_shape hown5
        have b5 := b1.ext (hX4.trans hE5)
        have r5 : BoxAt w5 wr.heap.size (ro8 ⟨M.key, M.live, M.gone, M.shade, []⟩ (.slice au m cu)) 55 := c4.ext hE5
        have d5 := r5.ro
        have f5 := r5.free 7
        have hX5 := hE1.trans (hX4.trans hE5)
        clear d4 c4 x0 x1 x2 x3 x4 x5 x6 x7
        go_wp2_with (((guard_target =~ wpList _ _ _ (Oper.mk none (Op.store _ (Operand.tmp 4) (Operand.tmp 23)) _ _ _ _ :: _) _ _); go_must (refine storeBox rfl 55 (.tmp 4) (.tmp 23) rfl (w.heap.size + 1) _ _ _ (by rfl) (by rfl) ((b5.other (by omega) _ _)) (by kernel_rfl) (by rfl) (by simp [Value.oneCell']) ?_); intro w6 c6 g6))
        have hownS := own_setCell (u := .slice a5 L.length c5') (i := 7) hown5 (own_ne_box hown5 r5 (by decide))
        have b5s := b5.other (show w.heap.size + 1 ≠ wr.heap.size by omega) 7 (.slice a5 L.length c5')
        have hown6 := hownS.kept g6 (own_ne_box hownS b5s (by decide))
        have hX6 := (hX5.setCell (p := ⟨wr.heap.size, 7, none⟩) (by show w.heap.size ≤ wr.heap.size; omega) (.slice a5 L.length c5')).grown g6 (fun q hq => by cases hq; omega)
        obtain ⟨z0, z1, z2, z3, z4, z5, z6, z7⟩ := c6.ro (r := ⟨M.key, M.live, M.gone, M.shade, []⟩) (v := .slice a5 L.length c5')
        refine bodyPost_ret (v := .tuple #[.agg #[.string M.key, .string M.live.val, .bool M.live.dead, .int .i64 M.live.at_, .int .i64 M.live.fin, .int .i64 M.gone, .int .i64 M.shade, .slice a5 L.length c5'], .bool true]) ?_ rfl ⟨_, by rw [hR, hB], ?_, hX6⟩
        · simp [results, Try.results24, go_sem, z0, z1, z2, z3, z4, z5, z6, z7]
        · rw [hR, ← HL.out]
          exact TIn.own hown6
    · have hR : R = ⟨key, zeroCl, 0, 0, []⟩ := by rw [HRk.out, List.drop_eq_nil_of_le (by simp; rw [← HN.out]; omega)]; rfl
      have hB : B = false := by rw [HBk.out, List.drop_eq_nil_of_le (by simp; rw [← HN.out]; omega)]; rfl
      go_wp2_with (((guard_target =~ wpList _ _ _ (Oper.mk none (Op.store _ (Operand.tmp 4) (Operand.tmp 26)) _ _ _ _ :: _) _ _); go_must (refine storeBox rfl 55 (.tmp 4) (.tmp 26) rfl (w.heap.size + 1) _ _ _ (by rfl) (by rfl) (b1) (by kernel_rfl) (by rfl) (by simp [Value.oneCell']) ?_); intro w6 c6 g6))
      obtain ⟨z0, z1, z2, z3, z4, z5, z6, z7⟩ := c6.ro (r := ⟨key, zeroCl, 0, 0, []⟩) (v := .slice none 0 0)
      refine bodyPost_ret (v := .tuple #[.agg #[.string key, .string ⟨#[]⟩, .bool false, .int .i64 0, .int .i64 0, .int .i64 0, .int .i64 0, .slice none 0 0], .bool false]) ?_ rfl ⟨_, by rw [hR, hB]; rfl, ?_, hE1.grown g6 (fun q hq => by cases hq; omega)⟩
      · simp [results, Try.results24, go_sem, z0, z1, z2, z3, z4, z5, z6, z7, zeroCl]
      · rw [hR]
        exact ColsT.nil _
theorem prow_any (pk : ByteArray) (pg : Int) (pu : Value) (ps : List (Ro × Value)) (key : ByteArray) (w : World) (hin : RowsIn w pu ps) (hcl : ∀ p ∈ ps, p.1.cols.length ≤ 1000000) :
    Calls Try.prog 24 #[.agg #[.string pk, .int .i64 pg, pu], .string key] w fun e w' => ∃ v', e = .returned (.tuple #[(.agg #[.string (rowOf (ps.map (·.1)) key).key, .string (rowOf (ps.map (·.1)) key).live.val, .bool (rowOf (ps.map (·.1)) key).live.dead, .int .i64 (rowOf (ps.map (·.1)) key).live.at_, .int .i64 (rowOf (ps.map (·.1)) key).live.fin, .int .i64 (rowOf (ps.map (·.1)) key).gone, .int .i64 (rowOf (ps.map (·.1)) key).shade, v']), .bool (hasRow (ps.map (·.1)) key)]) ∧ ColsIn w' v' (rowOf (ps.map (·.1)) key).cols ∧ Ext w w' :=
  (prow_typed pk pg pu ps key w hin hcl).mono fun _ _ ⟨v', h1, h2, h3⟩ => ⟨v', h1, h2.cols, h3⟩
end Go.Proofs.Yteamiiekpjoclaa
