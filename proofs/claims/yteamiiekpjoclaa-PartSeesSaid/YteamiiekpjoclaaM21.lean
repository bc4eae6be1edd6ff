/- Lists of rows in memory; the reference's SameRows, Same of partitions that read alike. -/
import Derived.Test.YteamiiekpjoclaaM20
import Derived.Test.YteamiiekpjoclaaM6
namespace Go.Proofs.Yteamiiekpjoclaa
open Go Go.RowKit
attribute [local go_sem] yields yUpon ro8 pa3

set_option maxRecDepth 100000 in
set_option maxHeartbeats 2000000 in
theorem sameRows_self (v v' : Value) (ps ps' : List (Ro × Value)) (w : World) (hin : RowsIn w v ps) (hin' : RowsIn w v' ps') (he : ps.map (·.1) = ps'.map (·.1)) :
    Calls Try.prog 25 #[v, v'] w fun e w' => e = .returned (.bool true) ∧ Ext w w' := by
  have hl : ps'.length = ps.length := by have := congrArg List.length he; simpa using this.symm
  obtain ⟨a, c, rfl, hc, hcm, hcell⟩ := hin.get
  obtain ⟨a', c', rfl, hc', hcm', hcell'⟩ := hin'.get
  rw [hl] at hc' ⊢
  have hP : ∀ k (hk : k < ps.length), ∃ (M : Ro) (u u' : Value), (∃ b o, a = some ⟨b, o, none⟩ ∧ RoAt w b (o + k * 8) M u) ∧ (∃ b o, a' = some ⟨b, o, none⟩ ∧ RoAt w b (o + k * 8) M u') ∧ ColsIn w u M.cols ∧ ColsIn w u' M.cols := by
    intro k hk
    have hk' : k < ps'.length := by omega
    have hm : ps'[k].1 = ps[k].1 := by
      have h1 : (ps.map (·.1))[k]? = (ps'.map (·.1))[k]? := by rw [he]
      simp [hk, hk'] at h1
      exact h1.symm
    refine ⟨ps[k].1, ps[k].2, ps'[k].2, hcell k hk, ?_, hin.cols _ (List.getElem_mem hk), ?_⟩
    · rw [← hm]; exact hcell' k hk'
    · rw [← hm]; exact hin'.cols _ (List.getElem_mem hk')
  have HP := Lib.hid hP
  clear hcell hcell' hin hin' hP he hl
  obtain ⟨n, hn⟩ : ∃ n, n = ps.length := ⟨_, rfl⟩
  rw [← hn] at HP hc hc' ⊢
  clear hn
  go_enter Try.func25, Try.ntmps25
  go_wp2
  go_loopw [5] (fun i wr => ∃ k : Nat, k ≤ n ∧ i = .int .i64 k ∧ Ext w wr) (fun i _ => n - (intOf i).toNat)
  case atStart => exact ⟨0, Nat.zero_le _, rfl, Ext.refl w⟩
  case round =>
    obtain ⟨k, hk, rfl, hE⟩ := hrel
    by_cases hlt : k < n
    · obtain ⟨M, u, u', ⟨b, o, rfl, hco⟩, ⟨b', o', rfl, hco'⟩, hcu, hcu'⟩ := HP.out k hlt
      obtain ⟨g0, g1, g2, g3, g4, g5, g6, g7⟩ := hco.ext hE
      obtain ⟨y0, y1, y2, y3, y4, y5, y6, y7⟩ := hco'.ext hE
      replace hcu := hcu.ext hE
      replace hcu' := hcu'.ext hE
      clear hco hco'
      have hki : decide ((k : Int) < (n : Int)) = true := by simpa using hlt
      replace g0 := held g0
      replace g1 := held g1
      replace g2 := held g2
      replace g3 := held g3
      replace g4 := held g4
      replace g5 := held g5
      replace g6 := held g6
      replace g7 := held g7
      replace y0 := held y0
      replace y1 := held y1
      replace y2 := held y2
      replace y3 := held y3
      replace y4 := held y4
      replace y5 := held y5
      replace y6 := held y6
      replace y7 := held y7
      go_wp2_with fail
      refine wp_region_tab 10 [(8, fun v _ => v = .bool true)] (by kernel_rfl) (by kernel_rfl) (by kernel_rfl) ⟨stays_eq _, trivial⟩ ?_
      refine rg_quiet rfl rfl rfl rfl ?_; intro K hK; go_big_quiet_op; go_big_quiet_on
      refine rg_quiet rfl rfl rfl rfl ?_; intro K hK; go_big_quiet_op; go_big_quiet_on
      refine rg_quiet rfl rfl rfl rfl ?_; intro K hK; go_big_quiet_op; go_big_quiet_on
      refine rg_quiet rfl rfl rfl rfl ?_; intro K hK; go_big_quiet_op; go_big_quiet_on
      refine rg_quiet rfl rfl rfl rfl ?_; intro K hK; go_big_quiet_op; go_big_quiet_on
      refine rg_quiet rfl rfl rfl rfl ?_; intro K hK; go_big_quiet_op; go_big_quiet_on
      refine rg_quiet rfl rfl rfl rfl ?_; intro K hK; go_big_quiet_op; go_big_quiet_on
      refine rg_quiet rfl rfl rfl rfl ?_; intro K hK; go_big_quiet_op; go_big_quiet_on
      refine rg_val [] rfl rfl rfl (by kernel_rfl) (fun w1 hE hf => ?_) ?_
      · go_simp
        exact (same7_self M u u' w1 (hcu.ext hE) (hcu'.ext hE)).mono fun e w' ⟨he, hw⟩ => ⟨_, he, rg_done hE hw (rfl)⟩
      simp only [Act.put, List.setIfInBounds_toArray, List.set_cons_zero, List.set_cons_succ]
      refine rg_quiet rfl rfl rfl rfl ?_; intro K hK; go_big_quiet_op; go_big_quiet_on
      refine rel_nil fun w5 hE5 _ => ?_
      clear g0 g1 g2 g3 g4 g5 g6 g7 y0 y1 y2 y3 y4 y5 y6 y7
      go_wp2_with fail
      go_roundw
      case rel => exact ⟨k + 1, by omega, by go_num, hE.trans hE5⟩
      case measure => simp [intOf] <;> omega
    · go_wp2_with fail
      go_ret
      exact ⟨rfl, hE⟩

set_option maxRecDepth 100000 in
set_option maxHeartbeats 2000000 in
theorem same8_self (k : ByteArray) (g : Int) (v v' : Value) (ps ps' : List (Ro × Value)) (w : World) (hin : RowsIn w v ps) (hin' : RowsIn w v' ps') (he : ps.map (·.1) = ps'.map (·.1)) :
    Calls Try.prog 33 #[.agg #[.string k, .int .i64 g, v], .agg #[.string k, .int .i64 g, v']] w fun e w' => e = .returned (.bool true) ∧ Ext w w' := by
  obtain ⟨a0, a1, hE⟩ := boxes2 w (pa3 k g v) (pa3 k g v') 39 39
  have hin1 := hin.ext hE
  have hin1' := hin'.ext hE
  clear a0 a1
  go_enter Try.func33, Try.ntmps33
  go_wp2_with fail
  refine (sameRows_self v v' ps ps' _ hin1 hin1' he).mono ?_
  rintro e w1 ⟨rfl, hE1⟩
  go_wp2
  go_ret
  exact ⟨rfl, hE.trans hE1⟩
end Go.Proofs.Yteamiiekpjoclaa
