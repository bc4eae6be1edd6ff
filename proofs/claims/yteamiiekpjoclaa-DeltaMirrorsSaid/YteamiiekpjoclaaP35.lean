/- FewRow, FewPart: not too much. -/
import Derived.Test.YteamiiekpjoclaaP3
import Derived.Lib.Hide
import Derived.Test.YteamiiekpjoclaaP4
import Derived.Test.YteamiiekpjoclaaP32
set_option linter.unusedSimpArgs false
set_option linter.unusedVariables false
namespace Go.Proofs.Yteamiiekpjoclaa
open Go Go.RowKit
attribute [local go_sem] yields yUpon ro8 pa3

/-- A row that is not too much. -/
structure FewR (r : Ro) : Prop where
  key : r.key.size ≤ 1000
  cols : r.cols.length ≤ 20
  val : r.live.val.size ≤ 1000
  each : ∀ c ∈ r.cols, c.name.size ≤ 300 ∧ c.cell.val.size ≤ 300

set_option maxRecDepth 100000 in
set_option maxHeartbeats 4000000 in
theorem fewRow_any (r : Ro) (v : Value) (w : World) (hin : ColsIn w v r.cols) :
    Calls Try.prog 50 #[(.agg #[.string r.key, .string r.live.val, .bool r.live.dead, .int .i64 r.live.at_, .int .i64 r.live.fin, .int .i64 r.gone, .int .i64 r.shade, v])] w fun e w' => ∃ b, e = .returned (.bool b) ∧ (b = true → FewR r) ∧ Ext w w' := by
  obtain ⟨a, c, rfl, hc, hcm, hcell⟩ := hin.get
  have b0 := BoxAt.made w (ro8 r (.slice a r.cols.length c)) 55
  have hE0 := (Ext.refl w).alloc (.cells (ro8 r (.slice a r.cols.length c)) 55)
  obtain ⟨n, hn⟩ : ∃ n, n = r.cols.length := ⟨_, rfl⟩
  rw [← hn] at hc b0 hE0 ⊢
  have HN := Lib.hid hn
  have HC := Lib.hid hcell
  clear hcell hin hn
  cases q1 : decide ((1000 : Int) < (r.key.size : Int))
  · cases q2 : decide ((20 : Int) < (n : Int))
    · cases q3 : decide ((1000 : Int) < (r.live.val.size : Int))
      · have HQ : Hid (r.key.size ≤ 1000 ∧ n ≤ 20 ∧ r.live.val.size ≤ 1000) := by
          simp at q1 q2 q3
          exact ⟨by omega, by omega, by omega⟩
        go_enter Try.func50, Try.ntmps50
        go_wp2_with fail
        clear q1 q2 q3
        go_loopw [3] (fun i wr => ∃ k : Nat, k ≤ n ∧ i = .int .i64 k ∧ BoxAt wr w.heap.size (ro8 r (.slice a n c)) 55 ∧ Ext w wr ∧ ∀ j (h : j < r.cols.length), j < k → (r.cols[j]'h).name.size ≤ 300 ∧ (r.cols[j]'h).cell.val.size ≤ 300) (fun i _ => n - (intOf i).toNat)
        case atStart => exact ⟨0, Nat.zero_le _, rfl, b0, hE0, fun j h hj => absurd hj (Nat.not_lt_zero _)⟩
        case round =>
          obtain ⟨k, hk, rfl, hb, hE, hall⟩ := hrel
          have HALL := Lib.hid hall
          clear hall b0 hE0
          obtain ⟨x0, x1, x2, x3, x4, x5, x6, x7⟩ := hb.ro
          by_cases hlt : k < n
          · have hkn : k < r.cols.length := by rw [← HN.out]; exact hlt
            obtain ⟨b, o, rfl, hco⟩ := HC.out k hkn
            obtain ⟨M, hM⟩ : ∃ M, M = r.cols[k] := ⟨_, rfl⟩
            rw [← hM] at hco
            have HM := Lib.hid hM
            clear hM
            obtain ⟨g0, g1, g2, g3, g4⟩ := hco.ext hE
            have hki : decide ((k : Int) < (n : Int)) = true := by simpa using hlt
            cases p1 : decide ((300 : Int) < (M.name.size : Int))
            · cases p2 : decide ((300 : Int) < (M.cell.val.size : Int))
              · have HP : Hid (M.name.size ≤ 300 ∧ M.cell.val.size ≤ 300) := by
                  simp at p1 p2
                  exact ⟨by omega, by omega⟩
                go_wp2_with fail
                go_roundw
                case rel =>
                  refine ⟨k + 1, by omega, by go_num, hb, hE, fun j h hj => ?_⟩
                  by_cases hjk : j < k
                  · exact HALL.out j h hjk
                  · obtain rfl : j = k := by omega
                    rw [← HM.out]
                    exact HP.out
                case measure => simp [intOf] <;> omega
              · go_wp2_with fail
                go_ret
                exact ⟨false, rfl, nofun, hE⟩
            · go_wp2_with fail
              go_ret
              exact ⟨false, rfl, nofun, hE⟩
          · have hki : decide ((k : Int) < (n : Int)) = false := by simp; omega
            go_wp2_with fail
            go_ret
            refine ⟨true, rfl, fun _ => ⟨HQ.out.1, by rw [← HN.out]; exact HQ.out.2.1, HQ.out.2.2, fun c hc => ?_⟩, hE⟩
            obtain ⟨j, hj, rfl⟩ := List.getElem_of_mem hc
            exact HALL.out j hj (by have := HN.out; omega)
      · go_enter Try.func50, Try.ntmps50
        go_wp2_with fail
        go_ret
        exact ⟨false, rfl, nofun, hE0⟩
    · go_enter Try.func50, Try.ntmps50
      go_wp2_with fail
      go_ret
      exact ⟨false, rfl, nofun, hE0⟩
  · go_enter Try.func50, Try.ntmps50
    go_wp2_with fail
    go_ret
    exact ⟨false, rfl, nofun, hE0⟩

set_option maxRecDepth 100000 in
set_option maxHeartbeats 4000000 in
theorem fewPart_any (pk : ByteArray) (pg : Int) (pu : Value) (ps : List (Ro × Value)) (most : Int) (w : World) (hin : RowsIn w pu ps) :
    Calls Try.prog 17 #[.agg #[.string pk, .int .i64 pg, pu], .int .i64 most] w fun e w' => ∃ b, e = .returned (.bool b) ∧ (b = true → pk.size ≤ 300 ∧ (ps.length : Int) ≤ most ∧ ∀ p ∈ ps, FewR p.1) ∧ Ext w w' := by
  have b0 := BoxAt.made w (pa3 pk pg pu) 39
  have hE0 := (Ext.refl w).alloc (.cells (pa3 pk pg pu) 39)
  obtain ⟨aa, ca, rfl, hca, hcma, hget⟩ := hin.get
  obtain ⟨n, hn⟩ : ∃ n, n = ps.length := ⟨_, rfl⟩
  rw [← hn] at hca b0 hE0 ⊢
  have HN := Lib.hid hn
  have HGET := Lib.hid hget
  have HC := Lib.hid hin.cols
  clear hn hget hin
  cases q1 : decide ((300 : Int) < (pk.size : Int))
  · cases q2 : decide (most < (n : Int))
    · have HQ : Hid (pk.size ≤ 300 ∧ (n : Int) ≤ most) := by
        simp at q1 q2
        exact ⟨by omega, by omega⟩
      go_enter Try.func17, Try.ntmps17
      go_wp2_with fail
      clear q1 q2
      go_loopw [5] (fun i wr => ∃ k : Nat, k ≤ n ∧ i = .int .i64 k ∧ BoxAt wr w.heap.size (pa3 pk pg (.slice aa n ca)) 39 ∧ Ext w wr ∧ ∀ j (h : j < ps.length), j < k → FewR (ps[j]'h).1) (fun i _ => n - (intOf i).toNat)
      case atStart => exact ⟨0, Nat.zero_le _, rfl, b0, hE0, fun j h hj => absurd hj (Nat.not_lt_zero _)⟩
      case round =>
        obtain ⟨k, hk, rfl, hb, hE, hall⟩ := hrel
        have HALL := Lib.hid hall
        clear hall b0 hE0
        obtain ⟨x0, x1, x2⟩ := hb.pa
        by_cases hlt : k < n
        · have hkp : k < ps.length := by rw [← HN.out]; exact hlt
          obtain ⟨b, o, rfl, hat⟩ := HGET.out k hkp
          have hcu := HC.out _ (List.getElem_mem hkp)
          obtain ⟨M, hM⟩ : ∃ M, M = ps[k].1 := ⟨_, rfl⟩
          obtain ⟨au, cu, hu⟩ := hcu.shape
          have HM := Lib.hid hM
          rw [← hM] at hat hu hcu
          rw [hu] at hat hcu
          clear hM hu
          obtain ⟨m, hm⟩ : ∃ m, m = M.cols.length := ⟨_, rfl⟩
          rw [← hm] at hat hcu
          have HMM := Lib.hid hm
          clear hm
          have hki : decide ((k : Int) < (n : Int)) = true := by simpa using hlt
          obtain ⟨y0, y1, y2, y3, y4, y5, y6, y7⟩ := hat.ext hE
          have hcu1 := hcu.ext hE
          clear hat hcu
          go_wp2_with fail
          refine (fewRow_any M _ wr hcu1).mono ?_
          rintro e w1 ⟨B, rfl, hB, hE1⟩
          have HB := Lib.hid hB
          clear hB hcu1 y0 y1 y2 y3 y4 y5 y6 y7
          cases B
          · go_wp2_with fail
            go_ret
            exact ⟨false, rfl, nofun, hE.trans hE1⟩
          · go_wp2_with fail
            go_roundw
            case rel =>
              refine ⟨k + 1, by omega, by go_num, hb.ext hE1, hE.trans hE1, fun j h hj => ?_⟩
              by_cases hjk : j < k
              · exact HALL.out j h hjk
              · obtain rfl : j = k := by omega
                rw [← HM.out]
                exact HB.out (by trivial)
            case measure => simp [intOf] <;> omega
        · have hki : decide ((k : Int) < (n : Int)) = false := by simp; omega
          go_wp2_with fail
          go_ret
          refine ⟨true, rfl, fun _ => ⟨HQ.out.1, HQ.out.2, fun p hp => ?_⟩, hE⟩
          obtain ⟨j, hj, rfl⟩ := List.getElem_of_mem hp
          exact HALL.out j hj (by have := HN.out; omega)
    · go_enter Try.func17, Try.ntmps17
      go_wp2_with fail
      go_ret
      exact ⟨false, rfl, nofun, hE0⟩
  · go_enter Try.func17, Try.ntmps17
    go_wp2_with fail
    go_ret
    exact ⟨false, rfl, nofun, hE0⟩
end Go.Proofs.Yteamiiekpjoclaa

/- Made, Several: partitions by numbers. -/
namespace Go.Proofs.Yteamiiekpjoclaa
open Go Go.RowKit
attribute [local go_sem] yields yUpon ro8 pa3

/-- A partition by numbers, of a key. -/
structure GenPa (key : ByteArray) (p : Pa) : Prop where
  key : p.key = key
  gone : 0 ≤ p.gone ∧ p.gone ≤ 7
  rows : GenRows 4 (p.ps.map (·.1))

set_option maxRecDepth 100000 in
set_option maxHeartbeats 4000000 in
theorem several_any (v : Value) (l : List Int) (many : Nat) (hm : many ≤ 1000) (key : ByteArray) (w : World) (hin : IntsIn w v .i64 l) :
    Calls Try.prog 12 #[v, .int .i64 (many : Int), .string key] w fun e w' => ∃ (v' : Value) (L : List Pa), e = .returned v' ∧ L.length = many ∧ PartsT w' v' L ∧ (∀ p ∈ L, GenPa key p) ∧ Ext w w' := by
  have a0 := BoxAt.made w #[v] 83
  have hE0 := (Ext.refl w).alloc (.cells #[v] 83)
  obtain ⟨av, cv, rfl, _⟩ := hin.block
  go_enter Try.func12, Try.ntmps12
  go_wp2_with fail
  go_loopw [8, 9] (fun m i wr => ∃ (k : Nat) (vo : Value) (L : List Pa), k ≤ many ∧ i = .int .i64 k ∧ m = vo ∧ L.length = k ∧ wr.ownsRow (w.heap.size + 1) 39 3 vo L.length (paCells L) ∧ (∀ p ∈ L, RowsT wr p.rv p.ps) ∧ (∀ p ∈ L, GenPa key p) ∧ LeftIn w wr w.heap.size ∧ w.heap.size < wr.heap.size ∧ Ext w wr) (fun _ i _ => many - (intOf i).toNat)
  case atStart => exact ⟨0, _, [], Nat.zero_le _, rfl, rfl, rfl, World.ownsRow_nil _ _ _ _, nofun, nofun, ⟨_, l, a0, hin⟩, a0.lt, hE0⟩
  case round =>
    obtain ⟨k, vo, L, hk, rfl, rfl, hLk, hown, hrows, hgen, hleft, hlt0, hE⟩ := hrel
    clear a0 hE0
    subst hLk
    obtain ⟨ao, co, rfl⟩ := own_shape hown
    by_cases hlt : L.length < many
    · have t1 : decide ((L.length : Int) < (many : Int)) = true := by simp; omega
      go_wp2_with fail
      refine (lpart_any w w.heap.size (Nat.le_refl _) key wr hE hleft).mono ?_
      rintro e w1 ⟨g, v1, qs, rfl, hg8, hgr, hq, hg, hleft1⟩
      obtain ⟨v0, hb0⟩ := hleft.box
      have hrows1 : ∀ p ∈ L, RowsT w1 p.rv p.ps := fun p hp => (hrows p hp).keep hg hb0 (by decide) (by decide)
      have hown1 : w1.ownsRow (w.heap.size + 1) 39 3 (.slice ao L.length co) L.length (paCells L) := hown.kept hg (own_ne_box hown hb0 (by decide))
      have hX1 : Ext w w1 := hE.grown hg (fun q hq => by cases hq; omega)
      have hsz1 : w.heap.size + 1 ≤ w1.heap.size := by have := hg.size; omega
      obtain ⟨aq, cq, rfl⟩ := hq.shape
      obtain ⟨nq, hnq⟩ : ∃ nq, nq = qs.length := ⟨_, rfl⟩
      rw [← hnq] at hq ⊢
      clear hnq hown hrows hleft hb0 hg
      go_wp2_with (at_builtin; go_must (refine appR info_Part und_Parts rfl (by decide) w1 rfl (.tmp 18) (.tmp 22) rfl (w.heap.size + 1) hsz1 (.slice ao L.length co) L.length (paCells L) hown1 rfl 1 (pa3 key g (.slice aq nq cq)) rfl rfl (by simp [pa3, Value.oneCell']) (by unfold maxLen; omega) (by omega) ?_); intro v20 w20 hown20 hg20)
      go_roundw
      case rel =>
        have hXa := (Ext.refl w1).alloc (.cells (pa3 key g (.slice aq nq cq)) 39)
        have howna := ownsRow_ext hown1 hXa
        have hkr : ∀ {rv ps}, RowsT w1 rv ps → RowsT w20 rv ps := fun h => (h.ext hXa).keepOwn howna hg20 (by decide) (by decide)
        refine ⟨L.length + 1, _, L ++ [⟨key, g, .slice aq nq cq, qs⟩], by omega, by go_num, rfl, by simp, ?_, fun p hp => ?_, fun p hp => ?_, ?_, ?_, ?_⟩
        · rw [paCells_append, List.length_append]
          exact hown20
        · rcases List.mem_append.1 hp with hp | hp
          · exact hkr (hrows1 p hp)
          · rw [List.mem_singleton.1 hp]
            exact hkr hq
        · rcases List.mem_append.1 hp with hp | hp
          · exact hgen p hp
          · rw [List.mem_singleton.1 hp]
            exact ⟨rfl, hg8, hgr⟩
        · obtain ⟨vl, ll, hv, hli⟩ := hleft1.ext hXa
          exact ⟨vl, ll, hv.grown hg20 (fun e => by have := (howna.lt _ e.symm).1; omega), hli⟩
        · have := hg20.size
          have := hXa.le
          omega
        · exact (hX1.trans hXa).grown hg20 (fun q hq => by have := (howna.lt _ hq).1; omega)
      case measure => simp [intOf]; omega
    · go_wp2_with fail
      have hkm : L.length = many := by omega
      go_ret
      exact ⟨_, L, rfl, hkm, ⟨TIn.own hown, hrows⟩, hgen, hE⟩
end Go.Proofs.Yteamiiekpjoclaa

/- Made: a partition by numbers. -/
namespace Go.Proofs.Yteamiiekpjoclaa
open Go Go.RowKit
attribute [local go_sem] yields yUpon ro8 pa3

set_option maxRecDepth 100000 in
set_option maxHeartbeats 4000000 in
theorem made_any (v : Value) (l : List Int) (key : ByteArray) (w : World) (hin : IntsIn w v .i64 l) :
    Calls Try.prog 19 #[v, .string key] w fun e w' => ∃ p : Pa, e = .returned (.agg #[.string key, .int .i64 p.gone, p.rv]) ∧ GenPa key p ∧ RowsT w' p.rv p.ps ∧ Ext w w' := by
  obtain ⟨a0, a1, hE0⟩ := boxes2 w (pa3 ⟨#[]⟩ 0 (.slice none 0 0)) #[v] 39 83
  obtain ⟨av, cv, rfl, _⟩ := hin.block
  go_enter Try.func19, Try.ntmps19
  go_wp2_with fail
  refine (lpart_any w (w.heap.size + 1) (Nat.le_succ _) key _ hE0 ⟨_, l, a1, hin⟩).mono ?_
  rintro e w1 ⟨g, v1, qs, rfl, hg8, hgr, hrows, hg, _⟩
  have hX : Ext w w1 := hE0.grown hg (fun q hq => by cases hq; omega)
  obtain ⟨aq, cq, rfl⟩ := hrows.shape
  have a0' := a0.grown hg (by simp)
  go_wp2_with (((guard_target =~ wpList _ _ _ (Oper.mk none (Op.store _ (Operand.tmp 4) (Operand.tmp 11)) _ _ _ _ :: _) _ _); go_must (refine storeBox rfl 39 (.tmp 4) (.tmp 11) rfl (w.heap.size) _ _ _ (by rfl) (by rfl) (a0') (by kernel_rfl) (by rfl) (by simp [Value.oneCell']) ?_); intro w3 c3 g3))
  obtain ⟨z0, z1, z2⟩ := BoxAt.pa (k := key) (g := g) (u := .slice aq qs.length cq) c3
  refine bodyPost_ret (v := .agg #[.string key, .int .i64 g, .slice aq qs.length cq]) ?_ rfl ⟨⟨key, g, _, qs⟩, rfl, ⟨rfl, hg8, hgr⟩, hrows.keep g3 a0' (by decide) (by decide), hX.grown g3 (fun q hq => by cases hq; omega)⟩
  simp [results, Try.results19, go_sem, Act.put, z0, z1, z2]

end Go.Proofs.Yteamiiekpjoclaa
