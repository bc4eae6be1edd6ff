/- Lists of rows in memory; the reference's SameRows, Same of partitions that read alike. -/
import Derived.Test.YtobanilgofhgkaaSame
namespace Go.Proofs.Ytobanilgofhgkaa
open Go Go.RowKit
attribute [local go_sem] yields yUpon ro8 pa3

/-- The cells of rows, each with the value of its columns. -/
def roCells : List (Ro × Value) → List Value
  | [] => []
  | p :: l => .string p.1.key :: .string p.1.live.val :: .bool p.1.live.dead :: .int .i64 p.1.live.at_ :: .int .i64 p.1.live.fin :: .int .i64 p.1.gone :: .int .i64 p.1.shade :: p.2 :: roCells l
theorem roCells_length (l : List (Ro × Value)) : (roCells l).length = l.length * 8 := by
  induction l with
  | nil => rfl
  | cons c l ih => simp [roCells, ih]; omega
theorem roCells_append (l m : List (Ro × Value)) : roCells (l ++ m) = roCells l ++ roCells m := by
  induction l with
  | nil => rfl
  | cons c l ih => simp [roCells, ih]
theorem roCells_get : ∀ (l : List (Ro × Value)) (k : Nat) (h : k < l.length) (j : Nat), j < 8 → (roCells l)[k * 8 + j]? = (ro8 l[k].1 l[k].2)[j]?
  | c :: l, 0, _, j, hj => by
    obtain rfl | rfl | rfl | rfl | rfl | rfl | rfl | rfl : j = 0 ∨ j = 1 ∨ j = 2 ∨ j = 3 ∨ j = 4 ∨ j = 5 ∨ j = 6 ∨ j = 7 := by omega
    all_goals simp [roCells, ro8]
  | c :: l, k + 1, h, j, hj => by
    have ih := roCells_get l k (by simpa using h) j hj
    have e : (k + 1) * 8 + j = k * 8 + j + 8 := by omega
    simp only [e, roCells, List.getElem_cons_succ]
    simpa using ih
/-- Rows in memory: v is a slice that reads as ps, each row's columns lie where its value says. -/
structure RowsIn (w : World) (v : Value) (ps : List (Ro × Value)) : Prop where
  rows : SliceIn w v ps.length (roCells ps)
  cols : ∀ p ∈ ps, ColsIn w p.2 p.1.cols
theorem RowsIn.ext {w w' : World} (hE : Ext w w') {v : Value} {ps : List (Ro × Value)} (h : RowsIn w v ps) : RowsIn w' v ps := ⟨h.rows.ext hE, fun p hp => (h.cols p hp).ext hE⟩
/-- A row at a place in memory. -/
structure RoAt (w : World) (b o : Nat) (r : Ro) (v : Value) : Prop where
  c0 : w.cell? ⟨b, o, none⟩ = some (.string r.key)
  c1 : w.cell? ⟨b, o + 1, none⟩ = some (.string r.live.val)
  c2 : w.cell? ⟨b, o + 2, none⟩ = some (.bool r.live.dead)
  c3 : w.cell? ⟨b, o + 3, none⟩ = some (.int .i64 r.live.at_)
  c4 : w.cell? ⟨b, o + 4, none⟩ = some (.int .i64 r.live.fin)
  c5 : w.cell? ⟨b, o + 5, none⟩ = some (.int .i64 r.gone)
  c6 : w.cell? ⟨b, o + 6, none⟩ = some (.int .i64 r.shade)
  c7 : w.cell? ⟨b, o + 7, none⟩ = some v
theorem RoAt.ext {w w' : World} (hE : Ext w w') {b o : Nat} {r : Ro} {v : Value} (h : RoAt w b o r v) : RoAt w' b o r v := ⟨hE.cell h.c0, hE.cell h.c1, hE.cell h.c2, hE.cell h.c3, hE.cell h.c4, hE.cell h.c5, hE.cell h.c6, hE.cell h.c7⟩
theorem RowsIn.get {w : World} {v : Value} {ps : List (Ro × Value)} (h : RowsIn w v ps) : ∃ a c, v = .slice a ps.length c ∧ ps.length ≤ c ∧ c ≤ 9223372036854775807 ∧ ∀ k (hk : k < ps.length), ∃ b o, a = some ⟨b, o, none⟩ ∧ RoAt w b (o + k * 8) ps[k].1 ps[k].2 := by
  obtain ⟨a, c, rfl, hc, hcm, ha, hcell⟩ := h.rows
  unfold maxLen at hcm
  refine ⟨a, c, rfl, hc, by omega, fun k hk => ?_⟩
  have g : ∀ j u, j < 8 → (ro8 ps[k].1 ps[k].2)[j]? = some u → ∃ b o, a = some ⟨b, o, none⟩ ∧ w.cell? ⟨b, o + (k * 8 + j), none⟩ = some u := fun j u hj he => hcell _ u ((roCells_get ps k hk j hj).trans he)
  obtain ⟨b, o, rfl, h0⟩ := g 0 _ (by decide) rfl
  obtain ⟨b1, o1, e1, h1⟩ := g 1 _ (by decide) rfl
  obtain ⟨b2, o2, e2, h2⟩ := g 2 _ (by decide) rfl
  obtain ⟨b3, o3, e3, h3⟩ := g 3 _ (by decide) rfl
  obtain ⟨b4, o4, e4, h4⟩ := g 4 _ (by decide) rfl
  obtain ⟨b5, o5, e5, h5⟩ := g 5 _ (by decide) rfl
  obtain ⟨b6, o6, e6, h6⟩ := g 6 _ (by decide) rfl
  obtain ⟨b7, o7, e7, h7⟩ := g 7 _ (by decide) rfl
  cases e1; cases e2; cases e3; cases e4; cases e5; cases e6; cases e7
  exact ⟨b, o, rfl, h0, h1, h2, h3, h4, h5, h6, h7⟩
theorem rows_one {w : World} {b : Nat} {r : Ro} {v : Value} {T : TypeId} (hb : BoxAt w b (ro8 r v) T) (hc : ColsIn w v r.cols) : RowsIn w (.slice (some ⟨b, 0, none⟩) 1 1) [(r, v)] :=
  ⟨⟨_, 1, rfl, Nat.le_refl _, by unfold maxLen; decide, nofun, fun j u hj => ⟨b, 0, rfl, by rw [Nat.zero_add, hb.cell j]; simpa [roCells, ro8] using hj⟩⟩, fun p hp => by rw [List.mem_singleton.1 hp]; exact hc⟩

set_option maxRecDepth 100000 in
set_option maxHeartbeats 2000000 in
theorem sameRows_self (v v' : Value) (ps ps' : List (Ro × Value)) (w : World) (hin : RowsIn w v ps) (hin' : RowsIn w v' ps') (he : ps.map (·.1) = ps'.map (·.1)) :
    Calls Try.prog 38 #[v, v'] w fun e w' => e = .returned (.bool true) ∧ Ext w w' := by
  have hl : ps'.length = ps.length := by have := congrArg List.length he; simpa using this.symm
  obtain ⟨a, c, rfl, hc, hcm, hcell⟩ := hin.get
  obtain ⟨a', c', rfl, hc', hcm', hcell'⟩ := hin'.get
  rw [hl] at hc' ⊢
  have hP : ∀ k (hk : k < ps.length), ∃ (M : Ro) (u u' : Value), (∃ b o, a = some ⟨b, o, none⟩ ∧ RoAt w b (o + k * 8) M u) ∧ (∃ b o, a' = some ⟨b, o, none⟩ ∧ RoAt w b (o + k * 8) M u') ∧ ColsIn w u M.cols ∧ ColsIn w u' M.cols := by
    intro k hk
    have hk' : k < ps'.length := by omega
    have hm : ps'[k].1 = ps[k].1 := by
      have h1 : (ps.map (·.1))[k]? = (ps'.map (·.1))[k]? := by rw [he]
      simp [hk, hk'] at h1
      exact h1.symm
    refine ⟨ps[k].1, ps[k].2, ps'[k].2, hcell k hk, ?_, hin.cols _ (List.getElem_mem hk), ?_⟩
    · rw [← hm]; exact hcell' k hk'
    · rw [← hm]; exact hin'.cols _ (List.getElem_mem hk')
  have HP := Lib.hid hP
  clear hcell hcell' hin hin' hP he hl
  obtain ⟨n, hn⟩ : ∃ n, n = ps.length := ⟨_, rfl⟩
  rw [← hn] at HP hc hc' ⊢
  clear hn
  go_enter Try.func38, Try.ntmps38
  go_wp2
  go_loopw [5] (fun i wr => ∃ k : Nat, k ≤ n ∧ i = .int .i64 k ∧ Ext w wr) (fun i _ => n - (intOf i).toNat)
  case atStart => exact ⟨0, Nat.zero_le _, rfl, Ext.refl w⟩
  case round =>
    obtain ⟨k, hk, rfl, hE⟩ := hrel
    by_cases hlt : k < n
    · obtain ⟨M, u, u', ⟨b, o, rfl, hco⟩, ⟨b', o', rfl, hco'⟩, hcu, hcu'⟩ := HP.out k hlt
      obtain ⟨g0, g1, g2, g3, g4, g5, g6, g7⟩ := hco.ext hE
      obtain ⟨y0, y1, y2, y3, y4, y5, y6, y7⟩ := hco'.ext hE
      replace hcu := hcu.ext hE
      replace hcu' := hcu'.ext hE
      clear hco hco'
      have hki : decide ((k : Int) < (n : Int)) = true := by simpa using hlt
      replace g0 := held g0
      replace g1 := held g1
      replace g2 := held g2
      replace g3 := held g3
      replace g4 := held g4
      replace g5 := held g5
      replace g6 := held g6
      replace g7 := held g7
      replace y0 := held y0
      replace y1 := held y1
      replace y2 := held y2
      replace y3 := held y3
      replace y4 := held y4
      replace y5 := held y5
      replace y6 := held y6
      replace y7 := held y7
      go_wp2_with fail
      refine wp_region_tab 10 [(8, fun v _ => v = .bool true)] (by kernel_rfl) (by kernel_rfl) (by kernel_rfl) ⟨stays_eq _, trivial⟩ ?_
      refine rg_quiet rfl rfl rfl rfl ?_; intro K hK; go_big_quiet_op; go_big_quiet_on
      refine rg_quiet rfl rfl rfl rfl ?_; intro K hK; go_big_quiet_op; go_big_quiet_on
      refine rg_quiet rfl rfl rfl rfl ?_; intro K hK; go_big_quiet_op; go_big_quiet_on
      refine rg_quiet rfl rfl rfl rfl ?_; intro K hK; go_big_quiet_op; go_big_quiet_on
      refine rg_quiet rfl rfl rfl rfl ?_; intro K hK; go_big_quiet_op; go_big_quiet_on
      refine rg_quiet rfl rfl rfl rfl ?_; intro K hK; go_big_quiet_op; go_big_quiet_on
      refine rg_quiet rfl rfl rfl rfl ?_; intro K hK; go_big_quiet_op; go_big_quiet_on
      refine rg_quiet rfl rfl rfl rfl ?_; intro K hK; go_big_quiet_op; go_big_quiet_on
      refine rg_val [] rfl rfl rfl (by kernel_rfl) (fun w1 hE hf => ?_) ?_
      · go_simp
        exact (same7_self M u u' w1 (hcu.ext hE) (hcu'.ext hE)).mono fun e w' ⟨he, hw⟩ => ⟨_, he, rg_done hE hw (rfl)⟩
      simp only [Act.put, List.setIfInBounds_toArray, List.set_cons_zero, List.set_cons_succ]
      refine rg_quiet rfl rfl rfl rfl ?_; intro K hK; go_big_quiet_op; go_big_quiet_on
      refine rel_nil fun w5 hE5 _ => ?_
      clear g0 g1 g2 g3 g4 g5 g6 g7 y0 y1 y2 y3 y4 y5 y6 y7
      go_wp2_with fail
      go_roundw
      case rel => exact ⟨k + 1, by omega, by go_num, hE.trans hE5⟩
      case measure => simp [intOf] <;> omega
    · go_wp2_with fail
      go_ret
      exact ⟨rfl, hE⟩

set_option maxRecDepth 100000 in
set_option maxHeartbeats 2000000 in
theorem same8_self (k : ByteArray) (g : Int) (v v' : Value) (ps ps' : List (Ro × Value)) (w : World) (hin : RowsIn w v ps) (hin' : RowsIn w v' ps') (he : ps.map (·.1) = ps'.map (·.1)) :
    Calls Try.prog 25 #[.agg #[.string k, .int .i64 g, v], .agg #[.string k, .int .i64 g, v']] w fun e w' => e = .returned (.bool true) ∧ Ext w w' := by
  obtain ⟨a0, a1, hE⟩ := boxes2 w (pa3 k g v) (pa3 k g v') 32 32
  have hin1 := hin.ext hE
  have hin1' := hin'.ext hE
  clear a0 a1
  go_enter Try.func25, Try.ntmps25
  go_wp2_with fail
  refine (sameRows_self v v' ps ps' _ hin1 hin1' he).mono ?_
  rintro e w1 ⟨rfl, hE1⟩
  go_wp2
  go_ret
  exact ⟨rfl, hE.trans hE1⟩
end Go.Proofs.Ytobanilgofhgkaa
