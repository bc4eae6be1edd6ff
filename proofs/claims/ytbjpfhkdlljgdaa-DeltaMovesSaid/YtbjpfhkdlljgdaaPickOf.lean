/- project.pick, project.of where a row is in the view. -/
import Derived.Test.YtbjpfhkdlljgdaaDelete
import Derived.Test.YtbjpfhkdlljgdaaProjNo
import Derived.Test.YtbjpfhkdlljgdaaRegionE
namespace Go.Proofs.Ytbjpfhkdlljgdaa
open Go Go.RowKit
attribute [local go_sem] yields yUpon ro8 pa3 vw5 cl4

set_option maxRecDepth 100000 in
set_option maxHeartbeats 2000000 in
theorem pick_any (x : Vw) (u : Value) (ns : List ByteArray) (v : Value) (l : List Co) (w : World) (hin : ColsIn w v l) (hlen : l.length ≤ 1000000) (hns : StrsIn w u ns) :
    Calls Try.prog 97 #[.agg #[.string x.name, .int .i64 x.id, .string x.table, .string x.on, u], v] w fun e w' => ∃ v', e = .returned v' ∧ w'.ownsRow w.heap.size 62 5 v' (l.filter (keeps ns)).length (coCells (l.filter (keeps ns))) ∧ Ext w w' := by
  have hin1 := hin.ext ((Ext.refl w).alloc (.cells (vw5 x u) 46))
  have hX1 := (Ext.refl w).alloc (.cells (vw5 x u) 46)
  go_enter Try.func97, Try.ntmps97
  go_wp2_with (at_builtin; go_must (refine appCols (w.alloc (.cells (vw5 x u) 46)) rfl (.const (.slice none 0 0)) (.tmp 9) rfl w.heap.size hX1.le _ [] (World.ownsRow_nil _ _ _ _) (by rfl) _ l hin1 (by rfl) (by simp; omega) ?_); intro v3 w3 hown3 hg3)
  have hX3 : Ext w w3 := hX1.grown hg3 (fun q hq => by cases hq)
  rw [List.nil_append] at hown3
  refine (deleteFunc_any v3 l u ns w.heap.size w3 hX3.le hlen hown3 (fun w' hg => hns.ext (hX3.grown hg (fun q hq => (hown3.lt q hq).1)))).mono ?_
  rintro e w4 ⟨v', rfl, hown4, hg4⟩
  go_wp2
  go_ret
  exact ⟨_, rfl, hown4, hX3.grown hg4 (fun q hq => (hown3.lt q hq).1)⟩

/-- What stays true in the last region of project.of. -/
structure OC (w w1 w2 : World) (x : Vw) (u : Value) (c : Cl) (q : Nat) (y : World) : Prop where
  view : BoxAt y w.heap.size (vw5 x u) 46
  cell : BoxAt y w1.heap.size (cl4 c) 31
  res : ∃ k g r, BoxAt y q (pa3 k g r) 26
  grown : w2.grownBy y (some q)
theorem OC.ext {w w1 w2 : World} {x : Vw} {u : Value} {c : Cl} {q : Nat} {y z : World} (hE : Ext y z) (h : OC w w1 w2 x u c q y) : OC w w1 w2 x u c q z :=
  ⟨h.view.ext hE, h.cell.ext hE, let ⟨k, g, r, hb⟩ := h.res; ⟨k, g, r, hb.ext hE⟩, grownBy_ext h.grown hE⟩
def OE (q : Nat) (j : Nat) (x y : World) : Prop := if j = 14 then x.grownBy y (some q) else Ext x y
theorem OE_ext {q j : Nat} {x y : World} (hj : j ≠ 14) (h : Ext x y) : OE q j x y := by unfold OE; rw [if_neg hj]; exact h
theorem OE_grown {q j : Nat} {x y : World} (h : OE q j x y) : x.grownBy y (some q) := by
  unfold OE at h
  split at h
  · exact h
  · exact grownBy_ext (grownBy_refl x _) h

theorem OE_own {x y : World} {q B : Nat} (hq : q < B) (h : x.grownBy y (some q)) {v : Value} {m : Nat} {xs : List Value} (hx : x.ownsRow B 62 5 v m xs) : y.ownsRow B 62 5 v m xs := by
  refine hx.kept h ?_
  cases e : v.ownBlock with
  | none => exact .inl rfl
  | some g => exact .inr (fun h => by have := (hx.lt g e).1; have := Option.some.inj h; omega)
set_option maxRecDepth 100000 in
set_option maxHeartbeats 8000000 in
theorem of_some (x : Vw) (u : Value) (ns : List ByteArray) (pk : ByteArray) (pg : Int) (pu : Value) (r : Ro) (v cv : Value) (lc : List Co) (w : World) (hin : ColsIn w v r.cols) (hcv : ColsIn w cv lc) (hlc : lc.length ≤ 1000000) (hns : StrsIn w u ns)
    (hb : bestB (cellOf r.cols x.on) (max r.gone pg) = true) (hk : pk.size ≤ 10000000) (hr : r.key.size ≤ 10000000) (hkl : (vkey pk r.key).size ≤ 400) :
    Calls Try.prog 67 #[.agg #[.string x.name, .int .i64 x.id, .string x.table, .string x.on, u], .agg #[.string pk, .int .i64 pg, pu], (.agg #[.string r.key, .string r.live.val, .bool r.live.dead, .int .i64 r.live.at_, .int .i64 r.live.fin, .int .i64 r.gone, .int .i64 r.shade, v]), cv] w fun e w' =>
      ∃ (b : Nat) (v' : Value), e = .returned (.tuple #[.agg #[.string (cellOf r.cols x.on).val, .int .i64 0, .slice (some ⟨b, 0, none⟩) 1 1], .bool true]) ∧ w.heap.size ≤ b ∧
        BoxAt w' b (ro8 ⟨vkey pk r.key, ⟨⟨#[]⟩, false, (cellOf r.cols x.on).at_, (cellOf r.cols x.on).fin⟩, 0, 0, lc.filter (keeps ns)⟩ v') 34 ∧ w'.ownsRow w.heap.size 62 5 v' (lc.filter (keeps ns)).length (coCells (lc.filter (keeps ns))) ∧ Ext w w' := by
  obtain ⟨c, hc⟩ : ∃ c, c = cellOf r.cols x.on := ⟨_, rfl⟩
  rw [← hc] at hb ⊢
  have hbc : bestC c (max r.gone pg) = c := by unfold bestC; rw [if_pos hb]
  obtain ⟨L, hL⟩ : ∃ L, L = lc.filter (keeps ns) := ⟨_, rfl⟩
  rw [← hL]
  obtain ⟨key, hkey⟩ : ∃ key, key = vkey pk r.key := ⟨_, rfl⟩
  rw [← hkey] at hkl ⊢
  have HB := Lib.hid hb
  have HC := Lib.hid hbc
  have Hc := Lib.hid hc
  have HL := Lib.hid hL
  have HK := Lib.hid hkey
  have k4 : decide ((400 : Int) < (key.size : Int)) = false := by simp; omega
  clear hb hbc hc hL hkey hkl
  obtain ⟨a0, a1, a2, a3, hE⟩ := boxes4 w (vw5 x u) (pa3 pk pg pu) (ro8 r v) (pa3 ⟨#[]⟩ 0 (.slice none 0 0)) 46 26 34 26
  have hin' := hin.ext hE
  go_enter Try.func67, Try.ntmps67
  go_wp2_with fail
  refine (best_any r v pg x.on _ hin').mono ?_
  rw [← Hc.out, HB.out, HC.out]
  rintro e w1 ⟨rfl, hE1⟩
  replace a0 := a0.ext hE1
  replace a1 := a1.ext hE1
  replace a2 := a2.ext hE1
  replace a3 := a3.ext hE1
  replace hE := hE.trans hE1
  clear hE1 hin' hin
  have y1 := a1.allocs
  have y2 := a2.allocs
  have l3 := a3.lt
  go_wp2_with fail
  refine (key_any pk r.key _ hk hr).mono ?_
  rw [← HK.out]
  rintro e w2 ⟨rfl, hE2⟩
  have b0 := (a0.ext ((Ext.refl _).alloc (.cells (cl4 c) 31))).ext hE2
  have b3 := (a3.ext ((Ext.refl _).alloc (.cells (cl4 c) 31))).ext hE2
  have bc := (BoxAt.made w1 (cl4 c) 31).ext hE2
  have hX := (hE.alloc (.cells (cl4 c) 31)).trans hE2
  have lc1 := bc.lt
  have hws := hX.le
  clear y1 y2 a0 a1 a2 a3 hE hE2
  go_wp2_with fail
  have hqs : (w.heap.size + 1 + 1 + 1) < w2.heap.size := b3.lt
  refine wp_region_relE (OC w w1 w2 x u c (w.heap.size + 1 + 1 + 1)) (OE (w.heap.size + 1 + 1 + 1)) (Tab.atE [(1, fun v _ => v = .string c.val), (4, fun v _ => v = .int .i64 c.at_), (6, fun v _ => v = .int .i64 c.fin), (8, fun v _ => v = .agg (vw5 x u)), (10, fun v y => y.ownsRow w2.heap.size 62 5 v L.length (coCells L)),
      (12, fun v y => ∃ (b : Nat) (v' : Value), v = .slice (some ⟨b, 0, none⟩) 1 1 ∧ w2.heap.size ≤ b ∧ BoxAt y b (ro8 ⟨key, ⟨⟨#[]⟩, false, c.at_, c.fin⟩, 0, 0, L⟩ v') 34 ∧ y.ownsRow w2.heap.size 62 5 v' L.length (coCells L)),
      (14, fun _ y => ∃ (b : Nat) (v' : Value), BoxAt y (w.heap.size + 1 + 1 + 1) (pa3 c.val 0 (.slice (some ⟨b, 0, none⟩) 1 1)) 26 ∧ w2.heap.size ≤ b ∧ BoxAt y b (ro8 ⟨key, ⟨⟨#[]⟩, false, c.at_, c.fin⟩, 0, 0, L⟩ v') 34 ∧ y.ownsRow w2.heap.size 62 5 v' L.length (coCells L))])
    (Tab.staysE ⟨fun _ _ _ _ _ _ h => h, fun _ _ _ _ _ _ h => h, fun _ _ _ _ _ _ h => h, fun _ _ _ _ _ _ h => h, fun j _ v y z hR h => OE_own hqs (OE_grown hR) h,
      fun j _ v y z hR ⟨b, v', e, hb, h1, h2⟩ => ⟨b, v', e, hb, h1.grown (OE_grown hR) (fun e => by have := Option.some.inj e; omega), OE_own hqs (OE_grown hR) h2⟩,
      fun j hj v y z hR ⟨b, v', h0, hb, h1, h2⟩ => by
        unfold OE at hR
        rw [if_neg hj] at hR
        exact ⟨b, v', h0.ext hR, hb, h1.ext hR, ownsRow_ext h2 hR⟩, trivial⟩)
    16 (by kernel_rfl) (by kernel_rfl) (by kernel_rfl) ((⟨b0, bc, ⟨_, _, _, b3⟩, grownBy_refl w2 _⟩ : OC w w1 w2 x u c (w.heap.size + 1 + 1 + 1) w2).ext (Ext.refl w2).drew) ?_
  refine relE_quiet rfl rfl rfl rfl ?_; intro K hK; go_big_quiet_op; (first | refine ⟨_, fun _ _ => rfl, hK _ ?_⟩ | refine hK _ ?_); clear hK K
  refine relE_val [] rfl rfl rfl (by kernel_rfl) (fun z hz hf => ?_) ?_
  · have c0 := hz.cell.cl.1
    go_simp
    exact ⟨hz, OE_ext (by decide) (Ext.refl z), rfl⟩
  simp only [Act.put, List.setIfInBounds_toArray, List.set_cons_zero, List.set_cons_succ]
  refine relE_quiet rfl rfl rfl rfl ?_; intro K hK; go_big_quiet_op; (first | refine ⟨_, fun _ _ => rfl, hK _ ?_⟩ | refine hK _ ?_); clear hK K
  refine relE_quiet rfl rfl rfl rfl ?_; intro K hK; go_big_quiet_op; (first | refine ⟨_, fun _ _ => rfl, hK _ ?_⟩ | refine hK _ ?_); clear hK K
  refine relE_val [] rfl rfl rfl (by kernel_rfl) (fun z hz hf => ?_) ?_
  · have c0 := hz.cell.cl.2.2.1
    go_simp
    exact ⟨hz, OE_ext (by decide) (Ext.refl z), rfl⟩
  simp only [Act.put, List.setIfInBounds_toArray, List.set_cons_zero, List.set_cons_succ]
  refine relE_quiet rfl rfl rfl rfl ?_; intro K hK; go_big_quiet_op; (first | refine ⟨_, fun _ _ => rfl, hK _ ?_⟩ | refine hK _ ?_); clear hK K
  refine relE_val [] rfl rfl rfl (by kernel_rfl) (fun z hz hf => ?_) ?_
  · have c0 := hz.cell.cl.2.2.2
    go_simp
    exact ⟨hz, OE_ext (by decide) (Ext.refl z), rfl⟩
  simp only [Act.put, List.setIfInBounds_toArray, List.set_cons_zero, List.set_cons_succ]
  refine relE_quiet rfl rfl rfl rfl ?_; intro K hK; go_big_quiet_op; (first | refine ⟨_, fun _ _ => rfl, hK _ ?_⟩ | refine hK _ ?_); clear hK K
  refine relE_val [] rfl rfl rfl (by kernel_rfl) (fun z hz hf => ?_) ?_
  · obtain ⟨c0, c1, c2, c3, c4⟩ := hz.view.vw
    go_simp
    exact ⟨hz, OE_ext (by decide) (Ext.refl z), rfl⟩
  simp only [Act.put, List.setIfInBounds_toArray, List.set_cons_zero, List.set_cons_succ]
  refine relE_quiet rfl rfl rfl rfl ?_; intro K hK; go_big_quiet_op; (first | refine ⟨_, fun _ _ => rfl, hK _ ?_⟩ | refine hK _ ?_); clear hK K
  refine relE_fact [] rfl rfl rfl (by kernel_rfl) (fun z hz hf => ?_) (fun v10 z10 hC10 hG10 h10 => ?_)
  · have hXz : Ext w z := hX.grown hz.grown (fun q hq => by cases hq; omega)
    go_simp
    refine (pick_any x u ns cv lc z (hcv.ext hXz) hlc (hns.ext hXz)).mono ?_
    rintro e z' ⟨v', he, hown, hEz⟩
    rw [← HL.out] at hown
    exact ⟨_, he, hz.ext hEz, OE_ext (by decide) hEz, ownsRow_base hown hz.grown.size⟩
  obtain ⟨a10, c10, rfl⟩ := own_shape h10
  clear hC10 hG10 h10
  simp only [Act.put, List.setIfInBounds_toArray, List.set_cons_zero, List.set_cons_succ]
  refine relE_quiet rfl rfl rfl rfl ?_; intro K hK; go_big_quiet_op; (first | refine ⟨_, fun _ _ => rfl, hK _ ?_⟩ | refine hK _ ?_); clear hK K
  refine relE_fact [10] rfl rfl rfl (by kernel_rfl) (fun z hz hf => ?_) (fun v12 z12 hC12 hG12 h12 => ?_)
  · have h10 := (hf 10 (by simp)).2 rfl
    go_simp
    refine ⟨hz.ext ((Ext.refl z).alloc _), OE_ext (by decide) ((Ext.refl z).alloc _), ?_⟩
    exact ⟨z.heap.size, rfl, hz.grown.size, .slice a10 L.length c10, BoxAt.made z _ _, ownsRow_ext h10 ((Ext.refl z).alloc _)⟩
  obtain ⟨b12, v12', rfl, _, _, _⟩ := h12
  clear hC12 hG12
  simp only [Act.put, List.setIfInBounds_toArray, List.set_cons_zero, List.set_cons_succ]
  refine relE_quiet rfl rfl rfl rfl ?_; intro K hK; go_big_quiet_op; (first | refine ⟨_, fun _ _ => rfl, hK _ ?_⟩ | refine hK _ ?_); clear hK K
  refine relE_fact [12] rfl rfl rfl (by kernel_rfl) (fun z hz hf => ?_) (fun v14 z14 hC14 hG14 h14 => ?_)
  · obtain ⟨b, v', e, hb, h1, h2⟩ := (hf 12 (by simp)).2 rfl
    cases e
    obtain ⟨k', g', r', hq'⟩ := hz.res
    refine yields_storeBox 26 (.tmp 8) (.tmp 48) rfl (w.heap.size + 1 + 1 + 1) (pa3 c.val 0 (.slice (some ⟨b12, 0, none⟩) 1 1)) _ 26 (by rfl) (by rfl) hq' (by kernel_rfl) (by rfl) (by simp [pa3, Value.oneCell']) ?_
    intro z' hz' hg'
    exact ⟨⟨hz.view.grown hg' (fun e => by have := Option.some.inj e; omega), hz.cell.grown hg' (fun e => by have := Option.some.inj e; omega), ⟨_, _, _, hz'⟩, grownBy_trans hz.grown hg'⟩, by unfold OE; rw [if_pos rfl]; exact hg', b12, v', hz', hb, h1.grown hg' (fun e => by have := Option.some.inj e; omega), OE_own hqs hg' h2⟩
  clear hC14 hG14 h14 z14
  simp only [Act.put, List.setIfInBounds_toArray, List.set_cons_zero, List.set_cons_succ]
  refine relE_quiet rfl rfl rfl rfl ?_; intro K hK; go_big_quiet_op; (first | refine ⟨_, fun _ _ => rfl, hK _ ?_⟩ | refine hK _ ?_); clear hK K
  refine relE_nil fun z hz hG => ?_
  obtain ⟨b, v', h0, hb, h1, h2⟩ := (hG 14).2 rfl
  have hXz : Ext w z := hX.grown hz.grown (fun q hq => by cases hq; omega)
  clear hG hz
  go_wp2_with fail
  have z0 := h0.cell 0
  have z1 := h0.cell 1
  have z2 := h0.cell 2
  simp [pa3] at z0 z1 z2
  refine bodyPost_ret (v := .tuple #[.agg #[.string c.val, .int .i64 0, .slice (some ⟨b, 0, none⟩) 1 1], .bool true]) ?_ rfl ⟨b, v', rfl, by omega, h1, ownsRow_base h2 hws, hXz⟩
  simp [results, Try.results67, go_sem, Act.put, z0, z1, z2]
end Go.Proofs.Ytbjpfhkdlljgdaa
