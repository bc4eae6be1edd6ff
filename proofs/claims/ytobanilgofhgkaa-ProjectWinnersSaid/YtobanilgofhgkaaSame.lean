/- The reference's Same: what reads alike is the same. -/
import Derived.Test.YtobanilgofhgkaaPickOf
namespace Go.Proofs.Ytobanilgofhgkaa
open Go Go.RowKit
attribute [local go_sem] yields yUpon ro8

set_option maxHeartbeats 1000000 in
theorem same6_self (c : Cl) (w : World) : Calls Try.prog 95 #[(.agg #[.string c.val, .bool c.dead, .int .i64 c.at_, .int .i64 c.fin]), (.agg #[.string c.val, .bool c.dead, .int .i64 c.at_, .int .i64 c.fin])] w fun e w' => e = .returned (.bool true) ∧ Ext w w' := by
  go_enter Try.func95, Try.ntmps95
  go_wp2
  go_ret
  exact ⟨rfl, ((Ext.refl w).alloc _).alloc _⟩

set_option maxRecDepth 100000 in
set_option maxHeartbeats 2000000 in
theorem sameCols_self (v v' : Value) (l : List Co) (w : World) (hin : ColsIn w v l) (hin' : ColsIn w v' l) :
    Calls Try.prog 96 #[v, v'] w fun e w' => e = .returned (.bool true) ∧ Ext w w' := by
  obtain ⟨a, c, rfl, hc, hcm, hcell⟩ := hin.get
  obtain ⟨a', c', rfl, hc', hcm', hcell'⟩ := hin'.get
  have HC := Lib.hid hcell
  have HC' := Lib.hid hcell'
  clear hcell hin hcell' hin'
  go_enter Try.func96, Try.ntmps96
  go_wp2
  go_loopw [5] (fun i wr => ∃ k : Nat, k ≤ l.length ∧ i = .int .i64 k ∧ Ext w wr) (fun i _ => l.length - (intOf i).toNat)
  case atStart => exact ⟨0, Nat.zero_le _, rfl, Ext.refl w⟩
  case round =>
    obtain ⟨k, hk, rfl, hE⟩ := hrel
    by_cases hlt : k < l.length
    · obtain ⟨b, o, rfl, hco⟩ := HC.out k hlt
      obtain ⟨b', o', rfl, hco'⟩ := HC'.out k hlt
      obtain ⟨M, hM⟩ : ∃ M, M = l[k] := ⟨_, rfl⟩
      rw [← hM] at hco hco'
      clear hM
      obtain ⟨g0, g1, g2, g3, g4⟩ := hco.ext hE
      obtain ⟨y0, y1, y2, y3, y4⟩ := hco'.ext hE
      clear hco hco'
      have hki : decide ((k : Int) < (l.length : Int)) = true := by simpa using hlt
      replace g0 := held g0
      replace g1 := held g1
      replace g2 := held g2
      replace g3 := held g3
      replace g4 := held g4
      replace y0 := held y0
      replace y1 := held y1
      replace y2 := held y2
      replace y3 := held y3
      replace y4 := held y4
      go_wp2_with fail
      refine wp_region_tab 25 [(22, fun v _ => v = .bool true)] (by kernel_rfl) (by kernel_rfl) (by kernel_rfl) ⟨stays_eq _, trivial⟩ ?_
      refine rg_quiet rfl rfl rfl rfl ?_; intro K hK; go_big_quiet_op; go_big_quiet_on
      refine rg_quiet rfl rfl rfl rfl ?_; intro K hK; go_big_quiet_op; go_big_quiet_on
      refine rg_quiet rfl rfl rfl rfl ?_; intro K hK; go_big_quiet_op; go_big_quiet_on
      refine rg_quiet rfl rfl rfl rfl ?_; intro K hK; go_big_quiet_op; go_big_quiet_on
      refine rg_quiet rfl rfl rfl rfl ?_; intro K hK; go_big_quiet_op; go_big_quiet_on
      refine rg_quiet rfl rfl rfl rfl ?_; intro K hK; go_big_quiet_op; go_big_quiet_on
      refine rg_quiet rfl rfl rfl rfl ?_; intro K hK; go_big_quiet_op; go_big_quiet_on
      refine rg_quiet rfl rfl rfl rfl ?_; intro K hK; go_big_quiet_op; go_big_quiet_on
      refine rg_quiet rfl rfl rfl rfl ?_; intro K hK; go_big_quiet_op; go_big_quiet_on
      refine rg_quiet rfl rfl rfl rfl ?_; intro K hK; go_big_quiet_op; go_big_quiet_on
      refine rg_quiet rfl rfl rfl rfl ?_; intro K hK; go_big_quiet_op; go_big_quiet_on
      refine rg_quiet rfl rfl rfl rfl ?_; intro K hK; go_big_quiet_op; go_big_quiet_on
      refine rg_quiet rfl rfl rfl rfl ?_; intro K hK; go_big_quiet_op; go_big_quiet_on
      refine rg_quiet rfl rfl rfl rfl ?_; intro K hK; go_big_quiet_op; go_big_quiet_on
      refine rg_quiet rfl rfl rfl rfl ?_; intro K hK; go_big_quiet_op; go_big_quiet_on
      refine rg_quiet rfl rfl rfl rfl ?_; intro K hK; go_big_quiet_op; go_big_quiet_on
      refine rg_quiet rfl rfl rfl rfl ?_; intro K hK; go_big_quiet_op; go_big_quiet_on
      refine rg_quiet rfl rfl rfl rfl ?_; intro K hK; go_big_quiet_op; go_big_quiet_on
      refine rg_quiet rfl rfl rfl rfl ?_; intro K hK; go_big_quiet_op; go_big_quiet_on
      refine rg_quiet rfl rfl rfl rfl ?_; intro K hK; go_big_quiet_op; go_big_quiet_on
      refine rg_quiet rfl rfl rfl rfl ?_; intro K hK; go_big_quiet_op; go_big_quiet_on
      refine rg_quiet rfl rfl rfl rfl ?_; intro K hK; go_big_quiet_op; go_big_quiet_on
      refine rg_val [] rfl rfl rfl (by kernel_rfl) (fun w1 hE hf => ?_) ?_
      · go_simp
        exact (same6_self M.cell w1).mono fun e w' ⟨he, hw⟩ => ⟨_, he, rg_done hE hw (rfl)⟩
      simp only [Act.put, List.setIfInBounds_toArray, List.set_cons_zero, List.set_cons_succ]
      refine rg_quiet rfl rfl rfl rfl ?_; intro K hK; go_big_quiet_op; go_big_quiet_on
      refine rg_quiet rfl rfl rfl rfl ?_; intro K hK; go_big_quiet_op; go_big_quiet_on
      refine rel_nil fun w5 hE5 _ => ?_
      clear g0 g1 g2 g3 g4 y0 y1 y2 y3 y4
      go_wp2_with fail
      go_roundw
      case rel => exact ⟨k + 1, by omega, by go_num, hE.trans hE5⟩
      case measure => simp [intOf] <;> omega
    · go_wp2_with fail
      go_ret
      exact ⟨rfl, hE⟩

set_option maxRecDepth 100000 in
set_option maxHeartbeats 2000000 in
theorem same7_self (r : Ro) (v v' : Value) (w : World) (hin : ColsIn w v r.cols) (hin' : ColsIn w v' r.cols) :
    Calls Try.prog 67 #[(.agg #[.string r.key, .string r.live.val, .bool r.live.dead, .int .i64 r.live.at_, .int .i64 r.live.fin, .int .i64 r.gone, .int .i64 r.shade, v]), (.agg #[.string r.key, .string r.live.val, .bool r.live.dead, .int .i64 r.live.at_, .int .i64 r.live.fin, .int .i64 r.gone, .int .i64 r.shade, v'])] w fun e w' => e = .returned (.bool true) ∧ Ext w w' := by
  obtain ⟨a0, a1, hE⟩ := boxes2 w (ro8 r v) (ro8 r v') 40 40
  have hin1 := hin.ext hE
  have hin1' := hin'.ext hE
  go_enter Try.func67, Try.ntmps67
  go_wp2_with fail
  refine (same6_self r.live _).mono ?_
  rintro e w1 ⟨rfl, hE1⟩
  replace a0 := a0.ext hE1
  replace a1 := a1.ext hE1
  replace hE := hE.trans hE1
  replace hin1 := hin1.ext hE1
  replace hin1' := hin1'.ext hE1
  have y0 : ∀ i, w1.cell? ⟨w.heap.size, i, none⟩ = (ro8 r v)[i]? := fun i => a0.cell i
  have y1 : ∀ i, w1.cell? ⟨w.heap.size + 1, i, none⟩ = (ro8 r v')[i]? := fun i => a1.cell i
  clear hE1 hin hin' a0 a1
  go_wp2_with fail
  refine (sameCols_self v v' r.cols _ hin1 hin1').mono ?_
  rintro e w2 ⟨rfl, hE2⟩
  go_wp2
  go_ret
  exact ⟨rfl, hE.trans hE2⟩
end Go.Proofs.Ytobanilgofhgkaa
