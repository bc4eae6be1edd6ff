/- clerestorylaw00's SameStrings, SameMsg of what reads alike. -/
import Derived.Test.YtfagnbofnaoncaaDoorQ20
import Derived.Test.YtfagnbofnaoncaaDoorQ10
import Derived.Test.YtfagnbofnaoncaaDoorQ7
import Derived.Lib.Hide
import Derived.Test.YtfagnbofnaoncaaDoorQ15
set_option linter.unusedSimpArgs false
set_option linter.unusedVariables false
namespace Go.Proofs.YtfagnbofnaoncaaDoor
open Go Go.RowKit
attribute [local go_sem] yields yUpon

set_option maxRecDepth 100000 in
set_option maxHeartbeats 2000000 in
theorem sameTx_any (v v' : Value) (l : List ByteArray) (w : World) (hin : TxIn w v l) (hin' : TxIn w v' l) :
    Calls Tryd.prog 17 #[v, v'] w fun e w' => e = .returned (.bool true) ∧ Ext w w' := by
  obtain ⟨a, c, rfl, hc, hcm, hcell⟩ := hin.get
  obtain ⟨a', c', rfl, hc', hcm', hcell'⟩ := hin'.get
  have HC := Lib.hid hcell
  have HC' := Lib.hid hcell'
  clear hcell hin hcell' hin'
  go_enter Tryd.func17, Tryd.ntmps17
  go_wp2
  go_loopw [5] (fun i wr => ∃ k : Nat, k ≤ l.length ∧ i = .int .i64 k ∧ Ext w wr) (fun i _ => l.length - (intOf i).toNat)
  case atStart => exact ⟨0, Nat.zero_le _, rfl, Ext.refl w⟩
  case round =>
    obtain ⟨k, hk, rfl, hE⟩ := hrel
    by_cases hlt : k < l.length
    · obtain ⟨b, o, rfl, hco⟩ := HC.out k hlt
      obtain ⟨b', o', rfl, hco'⟩ := HC'.out k hlt
      obtain ⟨x, hx⟩ : ∃ x, x = l[k] := ⟨_, rfl⟩
      rw [← hx] at hco hco'
      clear hx
      replace hco := hE.cell hco
      replace hco' := hE.cell hco'
      go_wp2
      go_quiet (fail)
      go_wp2
      go_roundw
      case rel => exact ⟨k + 1, by omega, by go_num, hE.drewN _⟩
      case measure => simp [intOf]; omega
    · obtain rfl : k = l.length := by omega
      go_wp2
      go_ret
      exact ⟨rfl, hE⟩

set_option maxRecDepth 100000 in
set_option maxHeartbeats 4000000 in
theorem sameMsg_any (m : Hd) (va vb ka kb : Value) (Ma Mb : List Mt) (hm : Ma.map Mt.q = Mb.map Mt.q) (K : List ByteArray) (w : World) (h1 : MtsIn w va Ma) (h2 : MtsIn w vb Mb) (h3 : TxIn w ka K) (h4 : TxIn w kb K) :
    Calls Tryd.prog 9 #[.agg (hd7 m va ka), .agg (hd7 m vb kb)] w fun e w' => e = .returned (.bool true) ∧ Ext w w' := by
  obtain ⟨kd, fr, to, id, nm⟩ := m
  have HM := Lib.hid hm
  obtain ⟨aa, ca, rfl, _⟩ := h1.get
  obtain ⟨ab, cb, rfl, _⟩ := h2.get
  obtain ⟨ac, cc, rfl, _⟩ := h3.get
  obtain ⟨ad, cd, rfl, _⟩ := h4.get
  unfold hd7
  simp only
  obtain ⟨b0, b1, hE⟩ := boxes2 w #[.int .i64 kd, .int .i64 fr, .int .i64 to, .int .i64 id, .slice aa Ma.length ca, .slice ac K.length cc, .int .i64 nm] #[.int .i64 kd, .int .i64 fr, .int .i64 to, .int .i64 id, .slice ab Mb.length cb, .slice ad K.length cd, .int .i64 nm] 25 25
  replace h1 := h1.ext hE
  replace h2 := h2.ext hE
  replace h3 := h3.ext hE
  replace h4 := h4.ext hE
  have t1 : (kd == kd) = true := by simp
  have t2 : (fr == fr) = true := by simp
  have t3 : (to == to) = true := by simp
  have t4 : (id == id) = true := by simp
  have t5 : (nm == nm) = true := by simp
  clear hm
  go_enter Tryd.func9, Tryd.ntmps9
  go_wp2_with (first
    | (go_at_call 16; go_must (refine (sameMts_any _ _ Ma Mb HM.out _ h1 h2).mono ?_); rintro e w1 ⟨rfl, hE1⟩; have x1 : w1.cell? ⟨w.heap.size, 5, none⟩ = some (.slice ac K.length cc) := (b0.ext hE1).cell 5; have y1 : w1.cell? ⟨w.heap.size + 1, 5, none⟩ = some (.slice ad K.length cd) := (b1.ext hE1).cell 5)
    | (go_at_call 17; go_must (refine (sameTx_any _ _ K _ (h3.ext hE1) (h4.ext hE1)).mono ?_); rintro e w2 ⟨rfl, hE2⟩))
  go_ret
  exact ⟨rfl, (hE.trans hE1).trans hE2⟩
end Go.Proofs.YtfagnbofnaoncaaDoor

/- FewRow, FewPart: not too much. -/
namespace Go.Proofs.YtfagnbofnaoncaaDoor
open Go Go.RowKit
attribute [local go_sem] yields yUpon ro8 pa3

/-- A row that is not too much. -/
structure FewR (r : Ro) : Prop where
  key : r.key.size ≤ 1000
  cols : r.cols.length ≤ 20
  val : r.live.val.size ≤ 1000
  each : ∀ c ∈ r.cols, c.name.size ≤ 300 ∧ c.cell.val.size ≤ 300

set_option maxRecDepth 100000 in
set_option maxHeartbeats 4000000 in
theorem fewRow_any (r : Ro) (v : Value) (w : World) (hin : ColsIn w v r.cols) :
    Calls Tryd.prog 36 #[(.agg #[.string r.key, .string r.live.val, .bool r.live.dead, .int .i64 r.live.at_, .int .i64 r.live.fin, .int .i64 r.gone, .int .i64 r.shade, v])] w fun e w' => ∃ b, e = .returned (.bool b) ∧ (b = true → FewR r) ∧ Ext w w' := by
  obtain ⟨a, c, rfl, hc, hcm, hcell⟩ := hin.get
  have b0 := BoxAt.made w (ro8 r (.slice a r.cols.length c)) 88
  have hE0 := (Ext.refl w).alloc (.cells (ro8 r (.slice a r.cols.length c)) 88)
  obtain ⟨n, hn⟩ : ∃ n, n = r.cols.length := ⟨_, rfl⟩
  rw [← hn] at hc b0 hE0 ⊢
  have HN := Lib.hid hn
  have HC := Lib.hid hcell
  clear hcell hin hn
  cases q1 : decide ((1000 : Int) < (r.key.size : Int))
  · cases q2 : decide ((20 : Int) < (n : Int))
    · cases q3 : decide ((1000 : Int) < (r.live.val.size : Int))
      · have HQ : Hid (r.key.size ≤ 1000 ∧ n ≤ 20 ∧ r.live.val.size ≤ 1000) := by
          simp at q1 q2 q3
          exact ⟨by omega, by omega, by omega⟩
        go_enter Tryd.func36, Tryd.ntmps36
        go_wp2_with fail
        clear q1 q2 q3
        go_loopw [3] (fun i wr => ∃ k : Nat, k ≤ n ∧ i = .int .i64 k ∧ BoxAt wr w.heap.size (ro8 r (.slice a n c)) 88 ∧ Ext w wr ∧ ∀ j (h : j < r.cols.length), j < k → (r.cols[j]'h).name.size ≤ 300 ∧ (r.cols[j]'h).cell.val.size ≤ 300) (fun i _ => n - (intOf i).toNat)
        case atStart => exact ⟨0, Nat.zero_le _, rfl, b0, hE0, fun j h hj => absurd hj (Nat.not_lt_zero _)⟩
        case round =>
          obtain ⟨k, hk, rfl, hb, hE, hall⟩ := hrel
          have HALL := Lib.hid hall
          clear hall b0 hE0
          obtain ⟨x0, x1, x2, x3, x4, x5, x6, x7⟩ := hb.ro
          by_cases hlt : k < n
          · have hkn : k < r.cols.length := by rw [← HN.out]; exact hlt
            obtain ⟨b, o, rfl, hco⟩ := HC.out k hkn
            obtain ⟨M, hM⟩ : ∃ M, M = r.cols[k] := ⟨_, rfl⟩
            rw [← hM] at hco
            have HM := Lib.hid hM
            clear hM
            obtain ⟨g0, g1, g2, g3, g4⟩ := hco.ext hE
            have hki : decide ((k : Int) < (n : Int)) = true := by simpa using hlt
            cases p1 : decide ((300 : Int) < (M.name.size : Int))
            · cases p2 : decide ((300 : Int) < (M.cell.val.size : Int))
              · have HP : Hid (M.name.size ≤ 300 ∧ M.cell.val.size ≤ 300) := by
                  simp at p1 p2
                  exact ⟨by omega, by omega⟩
                go_wp2_with fail
                go_roundw
                case rel =>
                  refine ⟨k + 1, by omega, by go_num, hb, hE, fun j h hj => ?_⟩
                  by_cases hjk : j < k
                  · exact HALL.out j h hjk
                  · obtain rfl : j = k := by omega
                    rw [← HM.out]
                    exact HP.out
                case measure => simp [intOf] <;> omega
              · go_wp2_with fail
                go_ret
                exact ⟨false, rfl, nofun, hE⟩
            · go_wp2_with fail
              go_ret
              exact ⟨false, rfl, nofun, hE⟩
          · have hki : decide ((k : Int) < (n : Int)) = false := by simp; omega
            go_wp2_with fail
            go_ret
            refine ⟨true, rfl, fun _ => ⟨HQ.out.1, by rw [← HN.out]; exact HQ.out.2.1, HQ.out.2.2, fun c hc => ?_⟩, hE⟩
            obtain ⟨j, hj, rfl⟩ := List.getElem_of_mem hc
            exact HALL.out j hj (by have := HN.out; omega)
      · go_enter Tryd.func36, Tryd.ntmps36
        go_wp2_with fail
        go_ret
        exact ⟨false, rfl, nofun, hE0⟩
    · go_enter Tryd.func36, Tryd.ntmps36
      go_wp2_with fail
      go_ret
      exact ⟨false, rfl, nofun, hE0⟩
  · go_enter Tryd.func36, Tryd.ntmps36
    go_wp2_with fail
    go_ret
    exact ⟨false, rfl, nofun, hE0⟩

set_option maxRecDepth 100000 in
set_option maxHeartbeats 4000000 in
theorem fewPart_any (pk : ByteArray) (pg : Int) (pu : Value) (ps : List (Ro × Value)) (most : Int) (w : World) (hin : RowsIn w pu ps) :
    Calls Tryd.prog 26 #[.agg #[.string pk, .int .i64 pg, pu], .int .i64 most] w fun e w' => ∃ b, e = .returned (.bool b) ∧ (b = true → pk.size ≤ 300 ∧ (ps.length : Int) ≤ most ∧ ∀ p ∈ ps, FewR p.1) ∧ Ext w w' := by
  have b0 := BoxAt.made w (pa3 pk pg pu) 39
  have hE0 := (Ext.refl w).alloc (.cells (pa3 pk pg pu) 39)
  obtain ⟨aa, ca, rfl, hca, hcma, hget⟩ := hin.get
  obtain ⟨n, hn⟩ : ∃ n, n = ps.length := ⟨_, rfl⟩
  rw [← hn] at hca b0 hE0 ⊢
  have HN := Lib.hid hn
  have HGET := Lib.hid hget
  have HC := Lib.hid hin.cols
  clear hn hget hin
  cases q1 : decide ((300 : Int) < (pk.size : Int))
  · cases q2 : decide (most < (n : Int))
    · have HQ : Hid (pk.size ≤ 300 ∧ (n : Int) ≤ most) := by
        simp at q1 q2
        exact ⟨by omega, by omega⟩
      go_enter Tryd.func26, Tryd.ntmps26
      go_wp2_with fail
      clear q1 q2
      go_loopw [5] (fun i wr => ∃ k : Nat, k ≤ n ∧ i = .int .i64 k ∧ BoxAt wr w.heap.size (pa3 pk pg (.slice aa n ca)) 39 ∧ Ext w wr ∧ ∀ j (h : j < ps.length), j < k → FewR (ps[j]'h).1) (fun i _ => n - (intOf i).toNat)
      case atStart => exact ⟨0, Nat.zero_le _, rfl, b0, hE0, fun j h hj => absurd hj (Nat.not_lt_zero _)⟩
      case round =>
        obtain ⟨k, hk, rfl, hb, hE, hall⟩ := hrel
        have HALL := Lib.hid hall
        clear hall b0 hE0
        obtain ⟨x0, x1, x2⟩ := hb.pa
        by_cases hlt : k < n
        · have hkp : k < ps.length := by rw [← HN.out]; exact hlt
          obtain ⟨b, o, rfl, hat⟩ := HGET.out k hkp
          have hcu := HC.out _ (List.getElem_mem hkp)
          obtain ⟨M, hM⟩ : ∃ M, M = ps[k].1 := ⟨_, rfl⟩
          obtain ⟨au, cu, hu⟩ := hcu.shape
          have HM := Lib.hid hM
          rw [← hM] at hat hu hcu
          rw [hu] at hat hcu
          clear hM hu
          obtain ⟨m, hm⟩ : ∃ m, m = M.cols.length := ⟨_, rfl⟩
          rw [← hm] at hat hcu
          have HMM := Lib.hid hm
          clear hm
          have hki : decide ((k : Int) < (n : Int)) = true := by simpa using hlt
          obtain ⟨y0, y1, y2, y3, y4, y5, y6, y7⟩ := hat.ext hE
          have hcu1 := hcu.ext hE
          clear hat hcu
          go_wp2_with fail
          refine (fewRow_any M _ wr hcu1).mono ?_
          rintro e w1 ⟨B, rfl, hB, hE1⟩
          have HB := Lib.hid hB
          clear hB hcu1 y0 y1 y2 y3 y4 y5 y6 y7
          cases B
          · go_wp2_with fail
            go_ret
            exact ⟨false, rfl, nofun, hE.trans hE1⟩
          · go_wp2_with fail
            go_roundw
            case rel =>
              refine ⟨k + 1, by omega, by go_num, hb.ext hE1, hE.trans hE1, fun j h hj => ?_⟩
              by_cases hjk : j < k
              · exact HALL.out j h hjk
              · obtain rfl : j = k := by omega
                rw [← HM.out]
                exact HB.out (by trivial)
            case measure => simp [intOf] <;> omega
        · have hki : decide ((k : Int) < (n : Int)) = false := by simp; omega
          go_wp2_with fail
          go_ret
          refine ⟨true, rfl, fun _ => ⟨HQ.out.1, HQ.out.2, fun p hp => ?_⟩, hE⟩
          obtain ⟨j, hj, rfl⟩ := List.getElem_of_mem hp
          exact HALL.out j hj (by have := HN.out; omega)
    · go_enter Tryd.func26, Tryd.ntmps26
      go_wp2_with fail
      go_ret
      exact ⟨false, rfl, nofun, hE0⟩
  · go_enter Tryd.func26, Tryd.ntmps26
    go_wp2_with fail
    go_ret
    exact ⟨false, rfl, nofun, hE0⟩
end Go.Proofs.YtfagnbofnaoncaaDoor

/- clerestorylaw00's FewMuts, FewBatch: what they tell. (what a smaller cut has) -/
namespace Go.Proofs.YtfagnbofnaoncaaDoor
open Go Go.RowKit
attribute [local go_sem] yields yUpon

/-- Not too much of a mutation. -/
def FewM (rows : Int) (m : Mt) : Prop := m.table.size ≤ 300 ∧ (m.pa.ps.length : Int) ≤ rows ∧ ∀ p ∈ m.pa.ps, FewR p.1

set_option maxRecDepth 100000 in
set_option maxHeartbeats 4000000 in
theorem fewMuts_any (v : Value) (M : List Mt) (most rows : Int) (w : World) (hin : MtsIn w v M) :
    Calls Tryd.prog 13 #[v, .int .i64 most, .int .i64 rows] w fun e w' => ∃ b, e = .returned (.bool b) ∧ (b = true → (M.length : Int) ≤ most ∧ ∀ m ∈ M, FewM rows m) ∧ Ext w w' := by
  have HC := Lib.hid hin.rows
  obtain ⟨aa, ca, rfl, hca, hcma, hget⟩ := hin.get
  obtain ⟨n, hn⟩ : ∃ n, n = M.length := ⟨_, rfl⟩
  rw [← hn] at hca ⊢
  have HN := Lib.hid hn
  have HGET := Lib.hid hget
  clear hn hget hin
  go_enter Tryd.func13, Tryd.ntmps13
  go_wp2_with fail
  go_loopw [7] (fun i wr => ∃ k : Nat, k ≤ n ∧ i = .int .i64 k ∧ Ext w wr ∧ Hid (∀ j (h : j < M.length), j < k → FewM rows (M[j]'h))) (fun i _ => n - (intOf i).toNat)
  case atStart => exact ⟨0, Nat.zero_le _, rfl, Ext.refl w, Lib.hid fun j h hj => absurd hj (Nat.not_lt_zero _)⟩
  case round =>
    obtain ⟨k, hk, rfl, hE, HALL⟩ := hrel
    by_cases hlt : k < n
    · have hkp : k < M.length := by rw [← HN.out]; exact hlt
      obtain ⟨b, o, rfl, hat⟩ := HGET.out k hkp
      have hrw := (HC.out _ (List.getElem_mem hkp)).ext hE
      obtain ⟨m, hm⟩ : ∃ m, m = M[k] := ⟨_, rfl⟩
      rw [← hm] at hat hrw
      have HM := Lib.hid hm
      clear hm
      obtain ⟨t, ⟨ky, gn, rv, ps⟩⟩ := m
      simp only at hrw
      obtain ⟨y0, y1, y2, y3⟩ := hat.ext hE
      simp only at y0 y1 y2 y3
      clear hat
      have hki : decide ((k : Int) < (n : Int)) = true := by simpa using hlt
      by_cases hmost : (k : Int) < most
      · have hmd : decide ((k : Int) < most) = true := by simpa using hmost
        cases q1 : decide ((300 : Int) < (t.size : Int))
        · have hts : t.size ≤ 300 := by simp at q1; omega
          go_wp2_with fail
          refine (fewPart_any ky gn rv ps rows wr hrw).mono ?_
          rintro e w1 ⟨B, rfl, hB, hE1⟩
          have HB := Lib.hid hB
          clear hB y0 y1 y2 y3
          cases B
          · go_wp2_with fail
            go_ret
            exact ⟨false, rfl, nofun, hE.trans hE1⟩
          · go_wp2_with fail
            go_roundw
            case rel =>
              refine ⟨k + 1, by omega, by go_num, hE.trans hE1, Lib.hid fun j h hj => ?_⟩
              by_cases hjk : j < k
              · exact HALL.out j h hjk
              · obtain rfl : j = k := by omega
                rw [← HM.out]
                exact ⟨hts, (HB.out trivial).2.1, (HB.out trivial).2.2⟩
            case measure => simp [intOf] <;> omega
        · go_wp2_with fail
          go_ret
          exact ⟨false, rfl, nofun, hE⟩
      · have hmd : decide ((k : Int) < most) = false := by simpa using hmost
        have hq : decide ((n : Int) ≤ most) = false := by simp; omega
        go_wp2_with fail
        go_ret
        exact .inl ⟨rfl, hE⟩
    · obtain rfl : k = n := by omega
      have hki : decide ((k : Int) < (k : Int)) = false := by simp
      go_wp2_with fail
      go_ret
      refine ⟨_, rfl, fun hb => ⟨of_decide_eq_true hb, fun p hp => ?_⟩, hE⟩
      obtain ⟨j, hj, rfl⟩ := List.getElem_of_mem hp
      exact HALL.out j hj (by have := HN.out; omega)
end Go.Proofs.YtfagnbofnaoncaaDoor

/- clerestorylaw21's few: what it tells. -/
namespace Go.Proofs.YtfagnbofnaoncaaDoor
open Go Go.RowKit
attribute [local go_sem] yields yUpon

set_option maxRecDepth 100000 in
set_option maxHeartbeats 4000000 in
theorem few21_any (m : Hd) (vm vk : Value) (M : List Mt) (K : List ByteArray) (w : World) (hM : MtsIn w vm M) (hK : TxIn w vk K) (hKb : ∀ k ∈ K, k.size ≤ maxLen) :
    Calls Tryd.prog 5 #[.agg (hd7 m vm vk)] w fun e w' => ∃ b, e = .returned (.bool b) ∧ (b = true → (K.length ≤ 50 ∧ ∀ k ∈ K, k.size ≤ 300) ∧ (M.length : Int) ≤ 20 ∧ ∀ m ∈ M, FewM 10 m) ∧ Ext w w' := by
  obtain ⟨kd, fr, to, id, nm⟩ := m
  unfold hd7
  simp only
  have b0 := BoxAt.made w #[.int .i64 kd, .int .i64 fr, .int .i64 to, .int .i64 id, vm, vk, .int .i64 nm] 25
  have hE0 := (Ext.refl w).alloc (.cells #[.int .i64 kd, .int .i64 fr, .int .i64 to, .int .i64 id, vm, vk, .int .i64 nm] 25)
  have hM0 := hM.ext hE0
  obtain ⟨am, cm, rfl, _⟩ := hM.get
  obtain ⟨ak, ck, rfl, hck, hckm, hget⟩ := hK.get
  obtain ⟨n, hn⟩ : ∃ n, n = K.length := ⟨_, rfl⟩
  rw [← hn] at hck b0 hE0 hM0 ⊢
  have HN := Lib.hid hn
  have HGET := Lib.hid hget
  have HKB := Lib.hid hKb
  clear hn hget hM hK hKb
  go_enter Tryd.func5, Tryd.ntmps5
  go_wp2_with fail
  generalize World.alloc w _ = w1 at b0 hE0 hM0 ⊢
  go_loopw [3] (fun i wr => ∃ k : Nat, k ≤ n ∧ k ≤ 50 ∧ i = .int .i64 k ∧ Ext w1 wr ∧ Hid (∀ j (h : j < K.length), j < k → (K[j]'h).size ≤ 300)) (fun i _ => n - (intOf i).toNat)
  case atStart => exact ⟨0, Nat.zero_le _, Nat.zero_le _, rfl, Ext.refl w1, Lib.hid fun j h hj => absurd hj (Nat.not_lt_zero _)⟩
  case round =>
    obtain ⟨k, hk, hk50, rfl, hE, HALL⟩ := hrel
    have hb := b0.ext hE
    have x4 : wr.cell? ⟨w.heap.size, 4, none⟩ = some (.slice am M.length cm) := hb.cell 4
    have x5 : wr.cell? ⟨w.heap.size, 5, none⟩ = some (.slice ak n ck) := hb.cell 5
    have hMr := hM0.ext hE
    by_cases hgo : k < n ∧ k < 50
    · obtain ⟨hlt, h50⟩ := hgo
      have hkp : k < K.length := by rw [← HN.out]; exact hlt
      obtain ⟨b, o, rfl, y0⟩ := HGET.out k hkp
      replace y0 := (hE0.trans hE).cell y0
      have hbs := HKB.out _ (List.getElem_mem hkp)
      unfold maxLen at hbs
      obtain ⟨s, hs⟩ : ∃ s, s = K[k] := ⟨_, rfl⟩
      rw [← hs] at y0 hbs
      have HS := Lib.hid hs
      clear hs
      have t1 : decide ((k : Int) < (n : Int)) = true := by simpa using hlt
      have t2 : decide ((k : Int) < 50) = true := by simp; omega
      cases q1 : decide ((300 : Int) < (s.size : Int))
      · have hs3 : s.size ≤ 300 := by simp at q1; omega
        go_wp2_with fail
        go_roundw
        case rel =>
          refine ⟨k + 1, by omega, by omega, by go_num, hE, Lib.hid fun j h hj => ?_⟩
          by_cases hjk : j < k
          · exact HALL.out j h hjk
          · obtain rfl : j = k := by omega
            rw [← HS.out]
            exact hs3
        case measure => simp [intOf] <;> omega
      · go_wp2_with fail
        go_ret
        exact ⟨false, rfl, nofun, hE0.trans hE⟩
    · have HFIN : Hid (n ≤ 50 → ∀ s ∈ K, s.size ≤ 300) := Lib.hid fun h s hs => by
        obtain ⟨j, hj, rfl⟩ := List.getElem_of_mem hs
        exact HALL.out j hj (by have := HN.out; omega)
      clear HALL
      have hor : k = n ∨ (k < n ∧ k = 50) := by omega
      cases q2 : decide ((n : Int) ≤ 50)
      · rcases hor with rfl | ⟨h1, rfl⟩
        · exfalso; simp at q2; omega
        · have t1 : decide (((50 : Nat) : Int) < (n : Int)) = true := by simp; omega
          go_wp2_with fail
          go_ret
          exact ⟨false, rfl, nofun, hE0.trans hE⟩
      · have hn50 : n ≤ 50 := by simp at q2; omega
        rcases hor with rfl | ⟨h1, rfl⟩
        · have t1 : decide ((k : Int) < (k : Int)) = false := by simp
          go_wp2_with (go_at_call 13; go_must (refine (fewMuts_any _ M 20 10 _ hMr).mono ?_); rintro e w2 ⟨B, rfl, hB, hE2⟩; have HB := Lib.hid hB; clear hB)
          go_ret
          exact ⟨B, rfl, fun h => ⟨⟨hn50, HFIN.out hn50⟩, HB.out h⟩, (hE0.trans hE).trans hE2⟩
        · exfalso; omega
end Go.Proofs.YtfagnbofnaoncaaDoor
