/- project.of, project.Mirror where a row is in no partition of the view; the verifier's awake. -/
import Derived.Test.YtolkhjdododdaaaGreatP13
import Derived.Test.YtolkhjdododdaaaGreatP11
import Derived.Test.YtolkhjdododdaaaGreatP2
import Derived.Test.YtolkhjdododdaaaGreatP8
set_option linter.unusedSimpArgs false
set_option linter.unusedVariables false
namespace Go.Proofs.YtolkhjdododdaaaGreat
open Go Go.RowKit
structure Vw where
  name : ByteArray
  id : Int
  table : ByteArray
  on : ByteArray
def vw5 (x : Vw) (u : Value) : Array Value := #[.string x.name, .int .i64 x.id, .string x.table, .string x.on, u]
theorem BoxAt.vw {w : World} {p : Nat} {x : Vw} {u : Value} {T : TypeId} (h : BoxAt w p (vw5 x u) T) : w.cell? ⟨p, 0, none⟩ = some (.string x.name) ∧ w.cell? ⟨p, 1, none⟩ = some (.int .i64 x.id) ∧ w.cell? ⟨p, 2, none⟩ = some (.string x.table) ∧ w.cell? ⟨p, 3, none⟩ = some (.string x.on) ∧ w.cell? ⟨p, 4, none⟩ = some u := ⟨h.cell 0, h.cell 1, h.cell 2, h.cell 3, h.cell 4⟩

attribute [local go_sem] yields yUpon ro8 pa3 vw5 cl4 tabV

set_option maxRecDepth 100000 in
set_option maxHeartbeats 2000000 in
theorem of_none (x : Vw) (u : Value) (pk : ByteArray) (pg : Int) (pu : Value) (r : Ro) (v cv : Value) (w : World) (hin : ColsIn w v r.cols) (hb : bestB (cellOf r.cols x.on) (max r.gone pg) = false) (hk : pk.size ≤ 10000000) (hr : r.key.size ≤ 10000000) :
    Calls Tryz.prog 44 #[.agg #[.string x.name, .int .i64 x.id, .string x.table, .string x.on, u], .agg #[.string pk, .int .i64 pg, pu], (.agg #[.string r.key, .string r.live.val, .bool r.live.dead, .int .i64 r.live.at_, .int .i64 r.live.fin, .int .i64 r.gone, .int .i64 r.shade, v]), cv] w fun e w' =>
      e = .returned (.tuple #[.agg #[.string ⟨#[]⟩, .int .i64 0, .slice none 0 0], .bool false]) ∧ Ext w w' := by
  have hbc : bestC (cellOf r.cols x.on) (max r.gone pg) = zeroCl := by unfold bestC; rw [if_neg (by rw [hb]; decide)]
  have HB := Lib.hid hb
  have HC := Lib.hid hbc
  clear hb hbc
  obtain ⟨a0, a1, a2, a3, hE⟩ := boxes4 w (vw5 x u) (pa3 pk pg pu) (ro8 r v) (pa3 ⟨#[]⟩ 0 (.slice none 0 0)) 31 39 54 39
  have hin' := hin.ext hE
  go_enter Tryz.func44, Tryz.ntmps44
  go_wp2_with fail
  refine (best_any r v pg x.on _ hin').mono ?_
  rw [HB.out, HC.out]
  rintro e w1 ⟨rfl, hE1⟩
  replace a0 := a0.ext hE1
  replace a1 := a1.ext hE1
  replace a2 := a2.ext hE1
  replace a3 := a3.ext hE1
  replace hE := hE.trans hE1
  clear hE1 hin' hin
  have y1 := a1.allocs
  have y2 := a2.allocs
  have y3 := a3.frees
  have y4 := a3.allocs
  go_wp2_with fail
  refine (key_any pk r.key _ hk hr).mono ?_
  rintro e w2 ⟨rfl, hE2⟩
  have b3 := a3.ext ((Ext.refl _).alloc _) |>.ext hE2
  have hX := (hE.alloc _).trans hE2
  clear y1 y2 y3 y4 a0 a1 a2 a3 hE hE2
  go_wp2_with ((guard_target =~ wpList _ _ _ (Oper.mk none (Op.store _ (Operand.tmp 8) (Operand.tmp 34)) _ _ _ _ :: _) _ _); go_must (refine storeBox rfl 39 (.tmp 8) (.tmp 34) rfl (w.heap.size + 1 + 1 + 1) _ _ _ (by rfl) (by rfl) (b3) (by kernel_rfl) (by rfl) (by simp [Value.oneCell']) ?_); intro w3 c3 g3)
  have hX3 := hX.grown g3 (fun k hk => by cases hk; omega)
  have z0 := c3.cell 0
  have z1 := c3.cell 1
  have z2 := c3.cell 2
  simp at z0 z1 z2
  refine bodyPost_ret (v := .tuple #[.agg #[.string ⟨#[]⟩, .int .i64 0, .slice none 0 0], .bool false]) ?_ rfl ⟨rfl, hX3⟩
  simp [results, Tryz.results44, go_sem, Act.put, z0, z1, z2]

set_option maxRecDepth 100000 in
set_option maxHeartbeats 2000000 in
theorem mirror_none (s : Value) (x : Vw) (u : Value) (pk : ByteArray) (pg : Int) (pu : Value) (r : Ro) (v : Value) (w : World) (hin : ColsIn w v r.cols) (hb : bestB (cellOf r.cols x.on) (max r.gone pg) = false) (hk : pk.size ≤ 10000000) (hr : r.key.size ≤ 10000000) :
    Calls Tryz.prog 23 #[tabV s, .agg #[.string x.name, .int .i64 x.id, .string x.table, .string x.on, u], .agg #[.string pk, .int .i64 pg, pu], (.agg #[.string r.key, .string r.live.val, .bool r.live.dead, .int .i64 r.live.at_, .int .i64 r.live.fin, .int .i64 r.gone, .int .i64 r.shade, v])] w fun e w' =>
      e = .returned (.tuple #[.agg #[.string ⟨#[]⟩, .int .i64 0, .slice none 0 0], .bool false]) ∧ Ext w w' := by
  have HB := Lib.hid hb
  clear hb
  obtain ⟨a0, a1, a2, a3, a4, hE⟩ := boxes5 w #[.string ⟨#[116]⟩, .int .i64 1, .string ⟨#[112]⟩, .int .i64 1, .string ⟨#[107]⟩, .int .i64 2, s] (vw5 x u) (pa3 pk pg pu) (ro8 r v) (pa3 ⟨#[]⟩ 0 (.slice none 0 0)) 28 31 39 54 39
  have hin' := hin.ext hE
  go_enter Tryz.func23, Tryz.ntmps23
  go_wp2_with fail
  refine (of_none x u pk pg pu r v v _ hin' HB.out hk hr).mono ?_
  rintro e w1 ⟨rfl, hE1⟩
  have b3 := (a4.ext hE1).ext ((Ext.refl w1).alloc (.cells (pa3 ⟨#[]⟩ 0 (.slice none 0 0)) 39))
  replace hE := hE.trans hE1
  clear hE1 hin' hin a0 a1 a2 a3 a4
  go_wp2_with ((guard_target =~ wpList _ _ _ (Oper.mk none (Op.store _ (Operand.tmp 8) (Operand.tmp 23)) _ _ _ _ :: _) _ _); go_must (refine storeBox rfl 39 (.tmp 8) (.tmp 23) rfl (w.heap.size + 1 + 1 + 1 + 1) _ _ _ (by rfl) (by rfl) (b3) (by kernel_rfl) (by rfl) (by simp [Value.oneCell']) ?_); intro w3 c3 g3)
  have hX3 := (hE.alloc _).grown g3 (fun k hk => by cases hk; omega)
  have z0 := c3.cell 0
  have z1 := c3.cell 1
  have z2 := c3.cell 2
  simp at z0 z1 z2
  refine bodyPost_ret (v := .tuple #[.agg #[.string ⟨#[]⟩, .int .i64 0, .slice none 0 0], .bool false]) ?_ rfl ⟨rfl, hX3⟩
  simp [results, Tryz.results23, go_sem, Act.put, z0, z1, z2]
end Go.Proofs.YtolkhjdododdaaaGreat

/- project.pick, project.of where a row is in the view. -/
namespace Go.Proofs.YtolkhjdododdaaaGreat
open Go Go.RowKit
attribute [local go_sem] yields yUpon ro8 pa3 vw5 cl4

set_option maxRecDepth 100000 in
set_option maxHeartbeats 2000000 in
theorem pick_any (x : Vw) (u : Value) (ns : List ByteArray) (v : Value) (l : List Co) (w : World) (hin : ColsIn w v l) (hlen : l.length ≤ 1000000) (hns : StrsIn w u ns) :
    Calls Tryz.prog 72 #[.agg #[.string x.name, .int .i64 x.id, .string x.table, .string x.on, u], v] w fun e w' => ∃ v', e = .returned v' ∧ w'.ownsRow w.heap.size 57 5 v' (l.filter (keeps ns)).length (coCells (l.filter (keeps ns))) ∧ Ext w w' := by
  have hin1 := hin.ext ((Ext.refl w).alloc (.cells (vw5 x u) 31))
  have hX1 := (Ext.refl w).alloc (.cells (vw5 x u) 31)
  go_enter Tryz.func72, Tryz.ntmps72
  go_wp2_with (at_builtin; go_must (refine appCols (w.alloc (.cells (vw5 x u) 31)) rfl (.const (.slice none 0 0)) (.tmp 9) rfl w.heap.size hX1.le _ [] (World.ownsRow_nil _ _ _ _) (by rfl) _ l hin1 (by rfl) (by simp; omega) ?_); intro v3 w3 hown3 hg3)
  have hX3 : Ext w w3 := hX1.grown hg3 (fun q hq => by cases hq)
  rw [List.nil_append] at hown3
  refine (deleteFunc_any v3 l u ns w.heap.size w3 hX3.le hlen hown3 (fun w' hg => hns.ext (hX3.grown hg (fun q hq => (hown3.lt q hq).1)))).mono ?_
  rintro e w4 ⟨v', rfl, hown4, hg4⟩
  go_wp2
  go_ret
  exact ⟨_, rfl, hown4, hX3.grown hg4 (fun q hq => (hown3.lt q hq).1)⟩

/-- What stays true in the last region of project.of. -/
structure OC (w w1 w2 : World) (x : Vw) (u : Value) (c : Cl) (q : Nat) (y : World) : Prop where
  view : BoxAt y w.heap.size (vw5 x u) 31
  cell : BoxAt y w1.heap.size (cl4 c) 51
  res : ∃ k g r, BoxAt y q (pa3 k g r) 39
  grown : w2.grownBy y (some q)
theorem OC.ext {w w1 w2 : World} {x : Vw} {u : Value} {c : Cl} {q : Nat} {y z : World} (hE : Ext y z) (h : OC w w1 w2 x u c q y) : OC w w1 w2 x u c q z :=
  ⟨h.view.ext hE, h.cell.ext hE, let ⟨k, g, r, hb⟩ := h.res; ⟨k, g, r, hb.ext hE⟩, grownBy_ext h.grown hE⟩
def OE (q : Nat) (j : Nat) (x y : World) : Prop := if j = 14 then x.grownBy y (some q) else Ext x y
theorem OE_ext {q j : Nat} {x y : World} (hj : j ≠ 14) (h : Ext x y) : OE q j x y := by unfold OE; rw [if_neg hj]; exact h
theorem OE_grown {q j : Nat} {x y : World} (h : OE q j x y) : x.grownBy y (some q) := by
  unfold OE at h
  split at h
  · exact h
  · exact grownBy_ext (grownBy_refl x _) h

theorem OE_own {x y : World} {q B : Nat} (hq : q < B) (h : x.grownBy y (some q)) {v : Value} {m : Nat} {xs : List Value} (hx : x.ownsRow B 57 5 v m xs) : y.ownsRow B 57 5 v m xs := by
  refine hx.kept h ?_
  cases e : v.ownBlock with
  | none => exact .inl rfl
  | some g => exact .inr (fun h => by have := (hx.lt g e).1; have := Option.some.inj h; omega)
set_option maxRecDepth 100000 in
set_option maxHeartbeats 8000000 in
theorem of_some (x : Vw) (u : Value) (ns : List ByteArray) (pk : ByteArray) (pg : Int) (pu : Value) (r : Ro) (v cv : Value) (lc : List Co) (w : World) (hin : ColsIn w v r.cols) (hcv : ColsIn w cv lc) (hlc : lc.length ≤ 1000000) (hns : StrsIn w u ns)
    (hb : bestB (cellOf r.cols x.on) (max r.gone pg) = true) (hk : pk.size ≤ 10000000) (hr : r.key.size ≤ 10000000) (hkl : (vkey pk r.key).size ≤ 400) :
    Calls Tryz.prog 44 #[.agg #[.string x.name, .int .i64 x.id, .string x.table, .string x.on, u], .agg #[.string pk, .int .i64 pg, pu], (.agg #[.string r.key, .string r.live.val, .bool r.live.dead, .int .i64 r.live.at_, .int .i64 r.live.fin, .int .i64 r.gone, .int .i64 r.shade, v]), cv] w fun e w' =>
      ∃ (b : Nat) (v' : Value), e = .returned (.tuple #[.agg #[.string (cellOf r.cols x.on).val, .int .i64 0, .slice (some ⟨b, 0, none⟩) 1 1], .bool true]) ∧ w.heap.size ≤ b ∧
        BoxAt w' b (ro8 ⟨vkey pk r.key, ⟨⟨#[]⟩, false, (cellOf r.cols x.on).at_, (cellOf r.cols x.on).fin⟩, 0, 0, lc.filter (keeps ns)⟩ v') 54 ∧ w'.ownsRow w.heap.size 57 5 v' (lc.filter (keeps ns)).length (coCells (lc.filter (keeps ns))) ∧ Ext w w' := by
  obtain ⟨c, hc⟩ : ∃ c, c = cellOf r.cols x.on := ⟨_, rfl⟩
  rw [← hc] at hb ⊢
  have hbc : bestC c (max r.gone pg) = c := by unfold bestC; rw [if_pos hb]
  obtain ⟨L, hL⟩ : ∃ L, L = lc.filter (keeps ns) := ⟨_, rfl⟩
  rw [← hL]
  obtain ⟨key, hkey⟩ : ∃ key, key = vkey pk r.key := ⟨_, rfl⟩
  rw [← hkey] at hkl ⊢
  have HB := Lib.hid hb
  have HC := Lib.hid hbc
  have Hc := Lib.hid hc
  have HL := Lib.hid hL
  have HK := Lib.hid hkey
  have k4 : decide ((400 : Int) < (key.size : Int)) = false := by simp; omega
  clear hb hbc hc hL hkey hkl
  obtain ⟨a0, a1, a2, a3, hE⟩ := boxes4 w (vw5 x u) (pa3 pk pg pu) (ro8 r v) (pa3 ⟨#[]⟩ 0 (.slice none 0 0)) 31 39 54 39
  have hin' := hin.ext hE
  go_enter Tryz.func44, Tryz.ntmps44
  go_wp2_with fail
  refine (best_any r v pg x.on _ hin').mono ?_
  rw [← Hc.out, HB.out, HC.out]
  rintro e w1 ⟨rfl, hE1⟩
  replace a0 := a0.ext hE1
  replace a1 := a1.ext hE1
  replace a2 := a2.ext hE1
  replace a3 := a3.ext hE1
  replace hE := hE.trans hE1
  clear hE1 hin' hin
  have y1 := a1.allocs
  have y2 := a2.allocs
  have l3 := a3.lt
  go_wp2_with fail
  refine (key_any pk r.key _ hk hr).mono ?_
  rw [← HK.out]
  rintro e w2 ⟨rfl, hE2⟩
  have b0 := (a0.ext ((Ext.refl _).alloc (.cells (cl4 c) 51))).ext hE2
  have b3 := (a3.ext ((Ext.refl _).alloc (.cells (cl4 c) 51))).ext hE2
  have bc := (BoxAt.made w1 (cl4 c) 51).ext hE2
  have hX := (hE.alloc (.cells (cl4 c) 51)).trans hE2
  have lc1 := bc.lt
  have hws := hX.le
  clear y1 y2 a0 a1 a2 a3 hE hE2
  go_wp2_with fail
  have hqs : (w.heap.size + 1 + 1 + 1) < w2.heap.size := b3.lt
  refine wp_region_relE (OC w w1 w2 x u c (w.heap.size + 1 + 1 + 1)) (OE (w.heap.size + 1 + 1 + 1)) (Tab.atE [(1, fun v _ => v = .string c.val), (4, fun v _ => v = .int .i64 c.at_), (6, fun v _ => v = .int .i64 c.fin), (8, fun v _ => v = .agg (vw5 x u)), (10, fun v y => y.ownsRow w2.heap.size 57 5 v L.length (coCells L)),
      (12, fun v y => ∃ (b : Nat) (v' : Value), v = .slice (some ⟨b, 0, none⟩) 1 1 ∧ w2.heap.size ≤ b ∧ BoxAt y b (ro8 ⟨key, ⟨⟨#[]⟩, false, c.at_, c.fin⟩, 0, 0, L⟩ v') 54 ∧ y.ownsRow w2.heap.size 57 5 v' L.length (coCells L)),
      (14, fun _ y => ∃ (b : Nat) (v' : Value), BoxAt y (w.heap.size + 1 + 1 + 1) (pa3 c.val 0 (.slice (some ⟨b, 0, none⟩) 1 1)) 39 ∧ w2.heap.size ≤ b ∧ BoxAt y b (ro8 ⟨key, ⟨⟨#[]⟩, false, c.at_, c.fin⟩, 0, 0, L⟩ v') 54 ∧ y.ownsRow w2.heap.size 57 5 v' L.length (coCells L))])
    (Tab.staysE ⟨fun _ _ _ _ _ _ h => h, fun _ _ _ _ _ _ h => h, fun _ _ _ _ _ _ h => h, fun _ _ _ _ _ _ h => h, fun j _ v y z hR h => OE_own hqs (OE_grown hR) h,
      fun j _ v y z hR ⟨b, v', e, hb, h1, h2⟩ => ⟨b, v', e, hb, h1.grown (OE_grown hR) (fun e => by have := Option.some.inj e; omega), OE_own hqs (OE_grown hR) h2⟩,
      fun j hj v y z hR ⟨b, v', h0, hb, h1, h2⟩ => by
        unfold OE at hR
        rw [if_neg hj] at hR
        exact ⟨b, v', h0.ext hR, hb, h1.ext hR, ownsRow_ext h2 hR⟩, trivial⟩)
    16 (by kernel_rfl) (by kernel_rfl) (by kernel_rfl) ((⟨b0, bc, ⟨_, _, _, b3⟩, grownBy_refl w2 _⟩ : OC w w1 w2 x u c (w.heap.size + 1 + 1 + 1) w2).ext (Ext.refl w2).drew) ?_
  refine relE_quiet rfl rfl rfl rfl ?_; intro K hK; go_big_quiet_op; (first | refine ⟨_, fun _ _ => rfl, hK _ ?_⟩ | refine hK _ ?_); clear hK K
  refine relE_val [] rfl rfl rfl (by kernel_rfl) (fun z hz hf => ?_) ?_
  · have c0 := hz.cell.cl.1
    go_simp
    exact ⟨hz, OE_ext (by decide) (Ext.refl z), rfl⟩
  simp only [Act.put, List.setIfInBounds_toArray, List.set_cons_zero, List.set_cons_succ]
  refine relE_quiet rfl rfl rfl rfl ?_; intro K hK; go_big_quiet_op; (first | refine ⟨_, fun _ _ => rfl, hK _ ?_⟩ | refine hK _ ?_); clear hK K
  refine relE_quiet rfl rfl rfl rfl ?_; intro K hK; go_big_quiet_op; (first | refine ⟨_, fun _ _ => rfl, hK _ ?_⟩ | refine hK _ ?_); clear hK K
  refine relE_val [] rfl rfl rfl (by kernel_rfl) (fun z hz hf => ?_) ?_
  · have c0 := hz.cell.cl.2.2.1
    go_simp
    exact ⟨hz, OE_ext (by decide) (Ext.refl z), rfl⟩
  simp only [Act.put, List.setIfInBounds_toArray, List.set_cons_zero, List.set_cons_succ]
  refine relE_quiet rfl rfl rfl rfl ?_; intro K hK; go_big_quiet_op; (first | refine ⟨_, fun _ _ => rfl, hK _ ?_⟩ | refine hK _ ?_); clear hK K
  refine relE_val [] rfl rfl rfl (by kernel_rfl) (fun z hz hf => ?_) ?_
  · have c0 := hz.cell.cl.2.2.2
    go_simp
    exact ⟨hz, OE_ext (by decide) (Ext.refl z), rfl⟩
  simp only [Act.put, List.setIfInBounds_toArray, List.set_cons_zero, List.set_cons_succ]
  refine relE_quiet rfl rfl rfl rfl ?_; intro K hK; go_big_quiet_op; (first | refine ⟨_, fun _ _ => rfl, hK _ ?_⟩ | refine hK _ ?_); clear hK K
  refine relE_val [] rfl rfl rfl (by kernel_rfl) (fun z hz hf => ?_) ?_
  · obtain ⟨c0, c1, c2, c3, c4⟩ := hz.view.vw
    go_simp
    exact ⟨hz, OE_ext (by decide) (Ext.refl z), rfl⟩
  simp only [Act.put, List.setIfInBounds_toArray, List.set_cons_zero, List.set_cons_succ]
  refine relE_quiet rfl rfl rfl rfl ?_; intro K hK; go_big_quiet_op; (first | refine ⟨_, fun _ _ => rfl, hK _ ?_⟩ | refine hK _ ?_); clear hK K
  refine relE_fact [] rfl rfl rfl (by kernel_rfl) (fun z hz hf => ?_) (fun v10 z10 hC10 hG10 h10 => ?_)
  · have hXz : Ext w z := hX.grown hz.grown (fun q hq => by cases hq; omega)
    go_simp
    refine (pick_any x u ns cv lc z (hcv.ext hXz) hlc (hns.ext hXz)).mono ?_
    rintro e z' ⟨v', he, hown, hEz⟩
    rw [← HL.out] at hown
    exact ⟨_, he, hz.ext hEz, OE_ext (by decide) hEz, ownsRow_base hown hz.grown.size⟩
  obtain ⟨a10, c10, rfl⟩ := own_shape h10
  clear hC10 hG10 h10
  simp only [Act.put, List.setIfInBounds_toArray, List.set_cons_zero, List.set_cons_succ]
  refine relE_quiet rfl rfl rfl rfl ?_; intro K hK; go_big_quiet_op; (first | refine ⟨_, fun _ _ => rfl, hK _ ?_⟩ | refine hK _ ?_); clear hK K
  refine relE_fact [10] rfl rfl rfl (by kernel_rfl) (fun z hz hf => ?_) (fun v12 z12 hC12 hG12 h12 => ?_)
  · have h10 := (hf 10 (by simp)).2 rfl
    go_simp
    refine ⟨hz.ext ((Ext.refl z).alloc _), OE_ext (by decide) ((Ext.refl z).alloc _), ?_⟩
    exact ⟨z.heap.size, rfl, hz.grown.size, .slice a10 L.length c10, BoxAt.made z _ _, ownsRow_ext h10 ((Ext.refl z).alloc _)⟩
  obtain ⟨b12, v12', rfl, _, _, _⟩ := h12
  clear hC12 hG12
  simp only [Act.put, List.setIfInBounds_toArray, List.set_cons_zero, List.set_cons_succ]
  refine relE_quiet rfl rfl rfl rfl ?_; intro K hK; go_big_quiet_op; (first | refine ⟨_, fun _ _ => rfl, hK _ ?_⟩ | refine hK _ ?_); clear hK K
  refine relE_fact [12] rfl rfl rfl (by kernel_rfl) (fun z hz hf => ?_) (fun v14 z14 hC14 hG14 h14 => ?_)
  · obtain ⟨b, v', e, hb, h1, h2⟩ := (hf 12 (by simp)).2 rfl
    cases e
    obtain ⟨k', g', r', hq'⟩ := hz.res
    refine yields_storeBox 39 (.tmp 8) (.tmp 48) rfl (w.heap.size + 1 + 1 + 1) (pa3 c.val 0 (.slice (some ⟨b12, 0, none⟩) 1 1)) _ 39 (by rfl) (by rfl) hq' (by kernel_rfl) (by rfl) (by simp [pa3, Value.oneCell']) ?_
    intro z' hz' hg'
    exact ⟨⟨hz.view.grown hg' (fun e => by have := Option.some.inj e; omega), hz.cell.grown hg' (fun e => by have := Option.some.inj e; omega), ⟨_, _, _, hz'⟩, grownBy_trans hz.grown hg'⟩, by unfold OE; rw [if_pos rfl]; exact hg', b12, v', hz', hb, h1.grown hg' (fun e => by have := Option.some.inj e; omega), OE_own hqs hg' h2⟩
  clear hC14 hG14 h14 z14
  simp only [Act.put, List.setIfInBounds_toArray, List.set_cons_zero, List.set_cons_succ]
  refine relE_quiet rfl rfl rfl rfl ?_; intro K hK; go_big_quiet_op; (first | refine ⟨_, fun _ _ => rfl, hK _ ?_⟩ | refine hK _ ?_); clear hK K
  refine relE_nil fun z hz hG => ?_
  obtain ⟨b, v', h0, hb, h1, h2⟩ := (hG 14).2 rfl
  have hXz : Ext w z := hX.grown hz.grown (fun q hq => by cases hq; omega)
  clear hG hz
  go_wp2_with fail
  have z0 := h0.cell 0
  have z1 := h0.cell 1
  have z2 := h0.cell 2
  simp [pa3] at z0 z1 z2
  refine bodyPost_ret (v := .tuple #[.agg #[.string c.val, .int .i64 0, .slice (some ⟨b, 0, none⟩) 1 1], .bool true]) ?_ rfl ⟨b, v', rfl, by omega, h1, ownsRow_base h2 hws, hXz⟩
  simp [results, Tryz.results44, go_sem, Act.put, z0, z1, z2]
end Go.Proofs.YtolkhjdododdaaaGreat

/- project.Mirror where a row is in the view. -/
namespace Go.Proofs.YtolkhjdododdaaaGreat
open Go Go.RowKit
attribute [local go_sem] yields yUpon ro8 pa3 vw5 cl4 tabV

set_option maxRecDepth 100000 in
set_option maxHeartbeats 8000000 in
theorem mirror_some (s : Value) (x : Vw) (u : Value) (ns : List ByteArray) (pk : ByteArray) (pg : Int) (pu : Value) (r : Ro) (v : Value) (w : World) (hin : ColsIn w v r.cols) (hlc : r.cols.length ≤ 1000000) (hns : StrsIn w u ns)
    (hb : bestB (cellOf r.cols x.on) (max r.gone pg) = true) (hk : pk.size ≤ 10000000) (hr : r.key.size ≤ 10000000) (hkl : (vkey pk r.key).size ≤ 400) :
    Calls Tryz.prog 23 #[tabV s, .agg #[.string x.name, .int .i64 x.id, .string x.table, .string x.on, u], .agg #[.string pk, .int .i64 pg, pu], (.agg #[.string r.key, .string r.live.val, .bool r.live.dead, .int .i64 r.live.at_, .int .i64 r.live.fin, .int .i64 r.gone, .int .i64 r.shade, v])] w fun e w' =>
      ∃ (b : Nat) (v' : Value), e = .returned (.tuple #[.agg #[.string (cellOf r.cols x.on).val, .int .i64 0, .slice (some ⟨b, 0, none⟩) 1 1], .bool true]) ∧ w.heap.size ≤ b ∧
        BoxAt w' b (ro8 ⟨vkey pk r.key, ⟨⟨#[]⟩, false, (cellOf r.cols x.on).at_, (cellOf r.cols x.on).fin⟩, max r.gone pg, 0, r.cols.filter (keeps ns)⟩ v') 54 ∧ w'.ownsRow w.heap.size 57 5 v' (r.cols.filter (keeps ns)).length (coCells (r.cols.filter (keeps ns))) ∧ Ext w w' := by
  obtain ⟨a0, a1, a2, a3, a4, hE⟩ := boxes5 w #[.string ⟨#[116]⟩, .int .i64 1, .string ⟨#[112]⟩, .int .i64 1, .string ⟨#[107]⟩, .int .i64 2, s] (vw5 x u) (pa3 pk pg pu) (ro8 r v) (pa3 ⟨#[]⟩ 0 (.slice none 0 0)) 28 31 39 54 39
  have hin' := hin.ext hE
  have hns' := hns.ext hE
  go_enter Tryz.func23, Tryz.ntmps23
  go_wp2_with fail
  refine (of_some x u ns pk pg pu r v v r.cols _ hin' hin' hlc hns' hb hk hr hkl).mono ?_
  obtain ⟨c, hc⟩ : ∃ c, c = cellOf r.cols x.on := ⟨_, rfl⟩
  rw [← hc]
  rintro e w1 ⟨b, v', rfl, hbs, hbox, hown, hE1⟩
  obtain ⟨L, hL⟩ : ∃ L, L = r.cols.filter (keeps ns) := ⟨_, rfl⟩
  rw [← hL] at hbox hown
  have Hc := Lib.hid hc
  have HL := Lib.hid hL
  have hq := a4.lt
  have hws := hE.le
  replace hown := ownsRow_base hown hws
  replace a2 := a2.ext hE1
  replace a3 := a3.ext hE1
  replace a4 := a4.ext hE1
  replace hE := hE.trans hE1
  clear hE1 hin' hns' hin hns a0 a1 hb hc hL
  have hb1 := hbox.lt
  go_wp2_with fail
  refine wp_region_in 8 [(5, fun v _ => v = .int .i64 (max r.gone pg))] (fun w0 => BoxAt w0 w1.heap.size (pa3 c.val 0 (.slice (some ⟨b, 0, none⟩) 1 1)) 39 ∧ BoxAt w0 (w.heap.size + 1 + 1) (pa3 pk pg pu) 39 ∧ BoxAt w0 (w.heap.size + 1 + 1 + 1) (ro8 r v) 54 ∧ BoxAt w0 (w.heap.size + 1 + 1 + 1 + 1) (pa3 ⟨#[]⟩ 0 (.slice none 0 0)) 39 ∧ BoxAt w0 b (ro8 ⟨vkey pk r.key, ⟨⟨#[]⟩, false, c.at_, c.fin⟩, 0, 0, L⟩ v') 54 ∧ w0.ownsRow w.heap.size 57 5 v' L.length (coCells L) ∧ Ext w w0) (by kernel_rfl) (by kernel_rfl) (by kernel_rfl) ⟨stays_eq _, trivial⟩ ?_ ?_
  · exact ⟨BoxAt.made _ _ _, a2.ext ((Ext.refl _).alloc _), a3.ext ((Ext.refl _).alloc _), a4.ext ((Ext.refl _).alloc _), hbox.ext ((Ext.refl _).alloc _), ownsRow_ext hown ((Ext.refl _).alloc _), hE.alloc _⟩
  clear a2 a3 a4 hbox hown hE
  rintro w2 ⟨c1, c2, c3, c4, c5, hown, hE⟩
  have FIN : Hid (∀ wx, Ext w2 wx → BoxAt wx w1.heap.size (pa3 c.val 0 (.slice (some ⟨b, 0, none⟩) 1 1)) 39 ∧ BoxAt wx (w.heap.size + 1 + 1 + 1 + 1) (pa3 ⟨#[]⟩ 0 (.slice none 0 0)) 39 ∧ BoxAt wx b (ro8 ⟨vkey pk r.key, ⟨⟨#[]⟩, false, c.at_, c.fin⟩, 0, 0, L⟩ v') 54 ∧ wx.ownsRow w.heap.size 57 5 v' L.length (coCells L) ∧ Ext w wx) := fun wx h => ⟨c1.ext h, c4.ext h, c5.ext h, ownsRow_ext hown h, hE.trans h⟩
  obtain ⟨y0, y1, y2⟩ := c1.pa
  obtain ⟨z0, z1, z2⟩ := c2.pa
  obtain ⟨x0, x1, x2, x3, x4, x5, x6, x7⟩ := c3.ro
  clear c1 c2 c3 c4 c5 hown hE z0 z2 y0 y1
  replace y2 := held y2
  replace z1 := held z1
  replace x0 := held x0
  replace x1 := held x1
  replace x2 := held x2
  replace x3 := held x3
  replace x4 := held x4
  replace x5 := held x5
  replace x6 := held x6
  replace x7 := held x7
  refine rg_quiet rfl rfl rfl rfl ?_; intro K hK; go_big_quiet_op; go_big_quiet_on
  refine rg_quiet rfl rfl rfl rfl ?_; intro K hK; go_big_quiet_op; go_big_quiet_on
  refine rg_quiet rfl rfl rfl rfl ?_; intro K hK; go_big_quiet_op; go_big_quiet_on
  refine rg_quiet rfl rfl rfl rfl ?_; intro K hK; go_big_quiet_op; go_big_quiet_on
  refine rg_quiet rfl rfl rfl rfl ?_; intro K hK; go_big_quiet_op; go_big_quiet_on
  refine rg_val [] rfl rfl rfl (by kernel_rfl) (fun w1 hE hf => ?_) ?_
  · go_simp
    exact (rgone_any r v pg w1).mono fun e w' ⟨he, hw⟩ => ⟨_, he, rg_done hE hw (rfl)⟩
  simp only [Act.put, List.setIfInBounds_toArray, List.set_cons_zero, List.set_cons_succ]
  refine rg_quiet rfl rfl rfl rfl ?_; intro K hK; go_big_quiet_op; go_big_quiet_on
  refine rg_quiet rfl rfl rfl rfl ?_; intro K hK; go_big_quiet_op; go_big_quiet_on
  refine rel_tail rfl rfl fun w5 hE5 hG => ?_
  obtain ⟨c1, c4, c5, hown, hE⟩ := FIN.out w5 hE5
  clear y2 z1 x0 x1 x2 x3 x4 x5 x6 x7 hE5 hG FIN
  have f5 := c5.cell 5
  have ff := c5.free 5
  simp [ro8] at f5
  have y : ∀ i, w5.cell? ⟨w1.heap.size, i, none⟩ = (pa3 c.val 0 (.slice (some ⟨b, 0, none⟩) 1 1))[i]? := fun i => c1.cell i
  have hbn : b ≠ w1.heap.size := by omega
  have hbn2 : w1.heap.size ≠ b := by omega
  have hcell := c5.set 5 (.int .i64 (max r.gone pg))
  have hqn : w.heap.size + 1 + 1 + 1 + 1 ≠ b := by omega
  have hres := c4.other hqn 5 (.int .i64 (max r.gone pg))
  have hownB := own_setCell (u := .int .i64 (max r.gone pg)) (i := 5) hown (own_ne_box hown c5 (by decide))
  have hXB := hE.setCell (p := ⟨b, 5, none⟩) (by show w.heap.size ≤ b; omega) (.int .i64 (max r.gone pg))
  have hrow : BoxAt (w5.setCell ⟨b, 5, none⟩ (.int .i64 (max r.gone pg))) b (ro8 ⟨vkey pk r.key, ⟨⟨#[]⟩, false, c.at_, c.fin⟩, max r.gone pg, 0, L⟩ v') 54 := hcell
  clear hcell hown c4 c5 hE
  go_wp2_with ((guard_target =~ wpList _ _ _ (Oper.mk none (Op.store _ (Operand.tmp 8) (Operand.tmp 32)) _ _ _ _ :: _) _ _); go_must (refine storeBox rfl 39 (.tmp 8) (.tmp 32) rfl (w.heap.size + 1 + 1 + 1 + 1) _ _ _ (by rfl) (by rfl) (hres) (by kernel_rfl) (by rfl) (by simp [Value.oneCell']) ?_); intro w6 c6 g6)
  have hX6 := hXB.grown g6 (fun q hq => by cases hq; omega)
  have hrow6 := hrow.grown g6 (fun e => by have := Option.some.inj e; omega)
  have hown6 := hownB.kept g6 (own_ne_box hownB hres (by decide))
  clear y c1 hrow hownB hres hXB g6 f5 ff
  have z0 := c6.cell 0
  have z1 := c6.cell 1
  have z2 := c6.cell 2
  simp at z0 z1 z2
  rw [← Hc.out, ← HL.out]
  refine bodyPost_ret (v := .tuple #[.agg #[.string c.val, .int .i64 0, .slice (some ⟨b, 0, none⟩) 1 1], .bool true]) ?_ rfl ⟨b, v', rfl, by omega, hrow6, hown6, hX6⟩
  simp [results, Tryz.results23, go_sem, Act.put, z0, z1, z2]
end Go.Proofs.YtolkhjdododdaaaGreat

/- project.Mirror, whether a row has a mirror or none. -/
namespace Go.Proofs.YtolkhjdododdaaaGreat
open Go Go.RowKit

/-- What mirrors a row: the partition's key and its one row. -/
def mirOf (x : Vw) (ns : List ByteArray) (pk : ByteArray) (pg : Int) (r : Ro) : Option (ByteArray × Ro) :=
  if bestB (cellOf r.cols x.on) (max r.gone pg) then some ((cellOf r.cols x.on).val, ⟨vkey pk r.key, ⟨⟨#[]⟩, false, (cellOf r.cols x.on).at_, (cellOf r.cols x.on).fin⟩, max r.gone pg, 0, r.cols.filter (keeps ns)⟩) else none
def mirK (m : Option (ByteArray × Ro)) : ByteArray := match m with
  | some p => p.1
  | none => ⟨#[]⟩
def mirR (m : Option (ByteArray × Ro)) : List Ro := match m with
  | some p => [p.2]
  | none => []
theorem mirror_any (s : Value) (x : Vw) (u : Value) (ns : List ByteArray) (pk : ByteArray) (pg : Int) (pu : Value) (r : Ro) (v : Value) (w : World) (hin : ColsIn w v r.cols) (hlc : r.cols.length ≤ 1000000) (hns : StrsIn w u ns)
    (hk : pk.size ≤ 10000000) (hr : r.key.size ≤ 10000000) (hkl : (vkey pk r.key).size ≤ 400) :
    Calls Tryz.prog 23 #[tabV s, .agg #[.string x.name, .int .i64 x.id, .string x.table, .string x.on, u], .agg #[.string pk, .int .i64 pg, pu], (.agg #[.string r.key, .string r.live.val, .bool r.live.dead, .int .i64 r.live.at_, .int .i64 r.live.fin, .int .i64 r.gone, .int .i64 r.shade, v])] w fun e w' =>
      ∃ rv, e = .returned (.tuple #[.agg #[.string (mirK (mirOf x ns pk pg r)), .int .i64 0, rv], .bool (mirOf x ns pk pg r).isSome]) ∧ ∃ ps, RowsT w' rv ps ∧ ps.map (·.1) = mirR (mirOf x ns pk pg r) ∧ Ext w w' := by
  cases hb : bestB (cellOf r.cols x.on) (max r.gone pg) with
  | true =>
    have e : mirOf x ns pk pg r = some ((cellOf r.cols x.on).val, ⟨vkey pk r.key, ⟨⟨#[]⟩, false, (cellOf r.cols x.on).at_, (cellOf r.cols x.on).fin⟩, max r.gone pg, 0, r.cols.filter (keeps ns)⟩) := by unfold mirOf; rw [if_pos hb]
    rw [e]
    refine (mirror_some s x u ns pk pg pu r v w hin hlc hns hb hk hr hkl).mono ?_
    rintro e w' ⟨b, v', rfl, hwb, hbox, hown, hE⟩
    exact ⟨_, rfl, _, RowsT.one hbox (TIn.own hown), rfl, hE⟩
  | false =>
    have e : mirOf x ns pk pg r = none := by unfold mirOf; rw [if_neg (by rw [hb]; decide)]
    rw [e]
    refine (mirror_none s x u pk pg pu r v w hin hb hk hr).mono ?_
    rintro e w' ⟨rfl, hE⟩
    exact ⟨_, rfl, [], RowsT.nil _, rfl, hE⟩
end Go.Proofs.YtolkhjdododdaaaGreat
