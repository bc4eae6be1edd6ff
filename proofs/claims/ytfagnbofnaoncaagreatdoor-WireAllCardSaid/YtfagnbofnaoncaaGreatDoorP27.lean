/- FewRow, FewPart: not too much. -/
import Derived.Test.YtfagnbofnaoncaaGreatDoorP7
import Derived.Lib.Hide
import Derived.Test.YtfagnbofnaoncaaGreatDoorP15
import Derived.Test.YtfagnbofnaoncaaGreatDoorP10
import Derived.Test.YtfagnbofnaoncaaGreatDoorP5
import Derived.Test.YtfagnbofnaoncaaGreatDoorProg
set_option linter.unusedSimpArgs false
set_option linter.unusedVariables false
namespace Go.Proofs.YtfagnbofnaoncaaGreatDoor
open Go Go.RowKit
attribute [local go_sem] yields yUpon ro8 pa3

/-- A row that is not too much. -/
structure FewR (r : Ro) : Prop where
  key : r.key.size ≤ 1000
  cols : r.cols.length ≤ 20
  val : r.live.val.size ≤ 1000
  each : ∀ c ∈ r.cols, c.name.size ≤ 300 ∧ c.cell.val.size ≤ 300

set_option maxRecDepth 100000 in
set_option maxHeartbeats 4000000 in
theorem fewRow_any (r : Ro) (v : Value) (w : World) (hin : ColsIn w v r.cols) :
    Calls Tryz.prog 133 #[(.agg #[.string r.key, .string r.live.val, .bool r.live.dead, .int .i64 r.live.at_, .int .i64 r.live.fin, .int .i64 r.gone, .int .i64 r.shade, v])] w fun e w' => ∃ b, e = .returned (.bool b) ∧ (b = true → FewR r) ∧ Ext w w' := by
  obtain ⟨a, c, rfl, hc, hcm, hcell⟩ := hin.get
  have b0 := BoxAt.made w (ro8 r (.slice a r.cols.length c)) 58
  have hE0 := (Ext.refl w).alloc (.cells (ro8 r (.slice a r.cols.length c)) 58)
  obtain ⟨n, hn⟩ : ∃ n, n = r.cols.length := ⟨_, rfl⟩
  rw [← hn] at hc b0 hE0 ⊢
  have HN := Lib.hid hn
  have HC := Lib.hid hcell
  clear hcell hin hn
  cases q1 : decide ((1000 : Int) < (r.key.size : Int))
  · cases q2 : decide ((20 : Int) < (n : Int))
    · cases q3 : decide ((1000 : Int) < (r.live.val.size : Int))
      · have HQ : Hid (r.key.size ≤ 1000 ∧ n ≤ 20 ∧ r.live.val.size ≤ 1000) := by
          simp at q1 q2 q3
          exact ⟨by omega, by omega, by omega⟩
        go_enter Tryz.func133, Tryz.ntmps133
        go_wp2_with fail
        clear q1 q2 q3
        go_loopw [3] (fun i wr => ∃ k : Nat, k ≤ n ∧ i = .int .i64 k ∧ BoxAt wr w.heap.size (ro8 r (.slice a n c)) 58 ∧ Ext w wr ∧ ∀ j (h : j < r.cols.length), j < k → (r.cols[j]'h).name.size ≤ 300 ∧ (r.cols[j]'h).cell.val.size ≤ 300) (fun i _ => n - (intOf i).toNat)
        case atStart => exact ⟨0, Nat.zero_le _, rfl, b0, hE0, fun j h hj => absurd hj (Nat.not_lt_zero _)⟩
        case round =>
          obtain ⟨k, hk, rfl, hb, hE, hall⟩ := hrel
          have HALL := Lib.hid hall
          clear hall b0 hE0
          obtain ⟨x0, x1, x2, x3, x4, x5, x6, x7⟩ := hb.ro
          by_cases hlt : k < n
          · have hkn : k < r.cols.length := by rw [← HN.out]; exact hlt
            obtain ⟨b, o, rfl, hco⟩ := HC.out k hkn
            obtain ⟨M, hM⟩ : ∃ M, M = r.cols[k] := ⟨_, rfl⟩
            rw [← hM] at hco
            have HM := Lib.hid hM
            clear hM
            obtain ⟨g0, g1, g2, g3, g4⟩ := hco.ext hE
            have hki : decide ((k : Int) < (n : Int)) = true := by simpa using hlt
            cases p1 : decide ((300 : Int) < (M.name.size : Int))
            · cases p2 : decide ((300 : Int) < (M.cell.val.size : Int))
              · have HP : Hid (M.name.size ≤ 300 ∧ M.cell.val.size ≤ 300) := by
                  simp at p1 p2
                  exact ⟨by omega, by omega⟩
                go_wp2_with fail
                go_roundw
                case rel =>
                  refine ⟨k + 1, by omega, by go_num, hb, hE, fun j h hj => ?_⟩
                  by_cases hjk : j < k
                  · exact HALL.out j h hjk
                  · obtain rfl : j = k := by omega
                    rw [← HM.out]
                    exact HP.out
                case measure => simp [intOf] <;> omega
              · go_wp2_with fail
                go_ret
                exact ⟨false, rfl, nofun, hE⟩
            · go_wp2_with fail
              go_ret
              exact ⟨false, rfl, nofun, hE⟩
          · have hki : decide ((k : Int) < (n : Int)) = false := by simp; omega
            go_wp2_with fail
            go_ret
            refine ⟨true, rfl, fun _ => ⟨HQ.out.1, by rw [← HN.out]; exact HQ.out.2.1, HQ.out.2.2, fun c hc => ?_⟩, hE⟩
            obtain ⟨j, hj, rfl⟩ := List.getElem_of_mem hc
            exact HALL.out j hj (by have := HN.out; omega)
      · go_enter Tryz.func133, Tryz.ntmps133
        go_wp2_with fail
        go_ret
        exact ⟨false, rfl, nofun, hE0⟩
    · go_enter Tryz.func133, Tryz.ntmps133
      go_wp2_with fail
      go_ret
      exact ⟨false, rfl, nofun, hE0⟩
  · go_enter Tryz.func133, Tryz.ntmps133
    go_wp2_with fail
    go_ret
    exact ⟨false, rfl, nofun, hE0⟩

set_option maxRecDepth 100000 in
set_option maxHeartbeats 4000000 in
theorem fewPart_any (pk : ByteArray) (pg : Int) (pu : Value) (ps : List (Ro × Value)) (most : Int) (w : World) (hin : RowsIn w pu ps) :
    Calls Tryz.prog 90 #[.agg #[.string pk, .int .i64 pg, pu], .int .i64 most] w fun e w' => ∃ b, e = .returned (.bool b) ∧ (b = true → pk.size ≤ 300 ∧ (ps.length : Int) ≤ most ∧ ∀ p ∈ ps, FewR p.1) ∧ Ext w w' := by
  have b0 := BoxAt.made w (pa3 pk pg pu) 50
  have hE0 := (Ext.refl w).alloc (.cells (pa3 pk pg pu) 50)
  obtain ⟨aa, ca, rfl, hca, hcma, hget⟩ := hin.get
  obtain ⟨n, hn⟩ : ∃ n, n = ps.length := ⟨_, rfl⟩
  rw [← hn] at hca b0 hE0 ⊢
  have HN := Lib.hid hn
  have HGET := Lib.hid hget
  have HC := Lib.hid hin.cols
  clear hn hget hin
  cases q1 : decide ((300 : Int) < (pk.size : Int))
  · cases q2 : decide (most < (n : Int))
    · have HQ : Hid (pk.size ≤ 300 ∧ (n : Int) ≤ most) := by
        simp at q1 q2
        exact ⟨by omega, by omega⟩
      go_enter Tryz.func90, Tryz.ntmps90
      go_wp2_with fail
      clear q1 q2
      go_loopw [5] (fun i wr => ∃ k : Nat, k ≤ n ∧ i = .int .i64 k ∧ BoxAt wr w.heap.size (pa3 pk pg (.slice aa n ca)) 50 ∧ Ext w wr ∧ ∀ j (h : j < ps.length), j < k → FewR (ps[j]'h).1) (fun i _ => n - (intOf i).toNat)
      case atStart => exact ⟨0, Nat.zero_le _, rfl, b0, hE0, fun j h hj => absurd hj (Nat.not_lt_zero _)⟩
      case round =>
        obtain ⟨k, hk, rfl, hb, hE, hall⟩ := hrel
        have HALL := Lib.hid hall
        clear hall b0 hE0
        obtain ⟨x0, x1, x2⟩ := hb.pa
        by_cases hlt : k < n
        · have hkp : k < ps.length := by rw [← HN.out]; exact hlt
          obtain ⟨b, o, rfl, hat⟩ := HGET.out k hkp
          have hcu := HC.out _ (List.getElem_mem hkp)
          obtain ⟨M, hM⟩ : ∃ M, M = ps[k].1 := ⟨_, rfl⟩
          obtain ⟨au, cu, hu⟩ := hcu.shape
          have HM := Lib.hid hM
          rw [← hM] at hat hu hcu
          rw [hu] at hat hcu
          clear hM hu
          obtain ⟨m, hm⟩ : ∃ m, m = M.cols.length := ⟨_, rfl⟩
          rw [← hm] at hat hcu
          have HMM := Lib.hid hm
          clear hm
          have hki : decide ((k : Int) < (n : Int)) = true := by simpa using hlt
          obtain ⟨y0, y1, y2, y3, y4, y5, y6, y7⟩ := hat.ext hE
          have hcu1 := hcu.ext hE
          clear hat hcu
          go_wp2_with fail
          refine (fewRow_any M _ wr hcu1).mono ?_
          rintro e w1 ⟨B, rfl, hB, hE1⟩
          have HB := Lib.hid hB
          clear hB hcu1 y0 y1 y2 y3 y4 y5 y6 y7
          cases B
          · go_wp2_with fail
            go_ret
            exact ⟨false, rfl, nofun, hE.trans hE1⟩
          · go_wp2_with fail
            go_roundw
            case rel =>
              refine ⟨k + 1, by omega, by go_num, hb.ext hE1, hE.trans hE1, fun j h hj => ?_⟩
              by_cases hjk : j < k
              · exact HALL.out j h hjk
              · obtain rfl : j = k := by omega
                rw [← HM.out]
                exact HB.out (by trivial)
            case measure => simp [intOf] <;> omega
        · have hki : decide ((k : Int) < (n : Int)) = false := by simp; omega
          go_wp2_with fail
          go_ret
          refine ⟨true, rfl, fun _ => ⟨HQ.out.1, HQ.out.2, fun p hp => ?_⟩, hE⟩
          obtain ⟨j, hj, rfl⟩ := List.getElem_of_mem hp
          exact HALL.out j hj (by have := HN.out; omega)
    · go_enter Tryz.func90, Tryz.ntmps90
      go_wp2_with fail
      go_ret
      exact ⟨false, rfl, nofun, hE0⟩
  · go_enter Tryz.func90, Tryz.ntmps90
    go_wp2_with fail
    go_ret
    exact ⟨false, rfl, nofun, hE0⟩
end Go.Proofs.YtfagnbofnaoncaaGreatDoor

/- clerestorylaw00's FewMuts, FewBatch: what they tell. (what a smaller cut has) -/
namespace Go.Proofs.YtfagnbofnaoncaaGreatDoor
open Go Go.RowKit
attribute [local go_sem] yields yUpon

/-- Not too much of a mutation. -/
def FewM (rows : Int) (m : Mt) : Prop := m.table.size ≤ 300 ∧ (m.pa.ps.length : Int) ≤ rows ∧ ∀ p ∈ m.pa.ps, FewR p.1

set_option maxRecDepth 100000 in
set_option maxHeartbeats 4000000 in
theorem fewMuts_any (v : Value) (M : List Mt) (most rows : Int) (w : World) (hin : MtsIn w v M) :
    Calls Tryz.prog 31 #[v, .int .i64 most, .int .i64 rows] w fun e w' => ∃ b, e = .returned (.bool b) ∧ (b = true → (M.length : Int) ≤ most ∧ ∀ m ∈ M, FewM rows m) ∧ Ext w w' := by
  have HC := Lib.hid hin.rows
  obtain ⟨aa, ca, rfl, hca, hcma, hget⟩ := hin.get
  obtain ⟨n, hn⟩ : ∃ n, n = M.length := ⟨_, rfl⟩
  rw [← hn] at hca ⊢
  have HN := Lib.hid hn
  have HGET := Lib.hid hget
  clear hn hget hin
  go_enter Tryz.func31, Tryz.ntmps31
  go_wp2_with fail
  go_loopw [7] (fun i wr => ∃ k : Nat, k ≤ n ∧ i = .int .i64 k ∧ Ext w wr ∧ Hid (∀ j (h : j < M.length), j < k → FewM rows (M[j]'h))) (fun i _ => n - (intOf i).toNat)
  case atStart => exact ⟨0, Nat.zero_le _, rfl, Ext.refl w, Lib.hid fun j h hj => absurd hj (Nat.not_lt_zero _)⟩
  case round =>
    obtain ⟨k, hk, rfl, hE, HALL⟩ := hrel
    by_cases hlt : k < n
    · have hkp : k < M.length := by rw [← HN.out]; exact hlt
      obtain ⟨b, o, rfl, hat⟩ := HGET.out k hkp
      have hrw := (HC.out _ (List.getElem_mem hkp)).ext hE
      obtain ⟨m, hm⟩ : ∃ m, m = M[k] := ⟨_, rfl⟩
      rw [← hm] at hat hrw
      have HM := Lib.hid hm
      clear hm
      obtain ⟨t, ⟨ky, gn, rv, ps⟩⟩ := m
      simp only at hrw
      obtain ⟨y0, y1, y2, y3⟩ := hat.ext hE
      simp only at y0 y1 y2 y3
      clear hat
      have hki : decide ((k : Int) < (n : Int)) = true := by simpa using hlt
      by_cases hmost : (k : Int) < most
      · have hmd : decide ((k : Int) < most) = true := by simpa using hmost
        cases q1 : decide ((300 : Int) < (t.size : Int))
        · have hts : t.size ≤ 300 := by simp at q1; omega
          go_wp2_with fail
          refine (fewPart_any ky gn rv ps rows wr hrw).mono ?_
          rintro e w1 ⟨B, rfl, hB, hE1⟩
          have HB := Lib.hid hB
          clear hB y0 y1 y2 y3
          cases B
          · go_wp2_with fail
            go_ret
            exact ⟨false, rfl, nofun, hE.trans hE1⟩
          · go_wp2_with fail
            go_roundw
            case rel =>
              refine ⟨k + 1, by omega, by go_num, hE.trans hE1, Lib.hid fun j h hj => ?_⟩
              by_cases hjk : j < k
              · exact HALL.out j h hjk
              · obtain rfl : j = k := by omega
                rw [← HM.out]
                exact ⟨hts, (HB.out trivial).2.1, (HB.out trivial).2.2⟩
            case measure => simp [intOf] <;> omega
        · go_wp2_with fail
          go_ret
          exact ⟨false, rfl, nofun, hE⟩
      · have hmd : decide ((k : Int) < most) = false := by simpa using hmost
        have hq : decide ((n : Int) ≤ most) = false := by simp; omega
        go_wp2_with fail
        go_ret
        exact .inl ⟨rfl, hE⟩
    · obtain rfl : k = n := by omega
      have hki : decide ((k : Int) < (k : Int)) = false := by simp
      go_wp2_with fail
      go_ret
      refine ⟨_, rfl, fun hb => ⟨of_decide_eq_true hb, fun p hp => ?_⟩, hE⟩
      obtain ⟨j, hj, rfl⟩ := List.getElem_of_mem hp
      exact HALL.out j hj (by have := HN.out; omega)
end Go.Proofs.YtfagnbofnaoncaaGreatDoor

/- clerestorylaw21's few: what it tells. -/
namespace Go.Proofs.YtfagnbofnaoncaaGreatDoor
open Go Go.RowKit
attribute [local go_sem] yields yUpon

set_option maxRecDepth 100000 in
set_option maxHeartbeats 4000000 in
theorem few21_any (m : Hd) (vm vk : Value) (M : List Mt) (K : List ByteArray) (w : World) (hM : MtsIn w vm M) (hK : TxIn w vk K) (hKb : ∀ k ∈ K, k.size ≤ maxLen) :
    Calls Tryz.prog 5 #[.agg (hd7 m vm vk)] w fun e w' => ∃ b, e = .returned (.bool b) ∧ (b = true → (K.length ≤ 50 ∧ ∀ k ∈ K, k.size ≤ 300) ∧ (M.length : Int) ≤ 20 ∧ ∀ m ∈ M, FewM 10 m) ∧ Ext w w' := by
  obtain ⟨kd, fr, to, id, nm⟩ := m
  unfold hd7
  simp only
  have b0 := BoxAt.made w #[.int .i64 kd, .int .i64 fr, .int .i64 to, .int .i64 id, vm, vk, .int .i64 nm] 25
  have hE0 := (Ext.refl w).alloc (.cells #[.int .i64 kd, .int .i64 fr, .int .i64 to, .int .i64 id, vm, vk, .int .i64 nm] 25)
  have hM0 := hM.ext hE0
  obtain ⟨am, cm, rfl, _⟩ := hM.get
  obtain ⟨ak, ck, rfl, hck, hckm, hget⟩ := hK.get
  obtain ⟨n, hn⟩ : ∃ n, n = K.length := ⟨_, rfl⟩
  rw [← hn] at hck b0 hE0 hM0 ⊢
  have HN := Lib.hid hn
  have HGET := Lib.hid hget
  have HKB := Lib.hid hKb
  clear hn hget hM hK hKb
  go_enter Tryz.func5, Tryz.ntmps5
  go_wp2_with fail
  generalize World.alloc w _ = w1 at b0 hE0 hM0 ⊢
  go_loopw [3] (fun i wr => ∃ k : Nat, k ≤ n ∧ k ≤ 50 ∧ i = .int .i64 k ∧ Ext w1 wr ∧ Hid (∀ j (h : j < K.length), j < k → (K[j]'h).size ≤ 300)) (fun i _ => n - (intOf i).toNat)
  case atStart => exact ⟨0, Nat.zero_le _, Nat.zero_le _, rfl, Ext.refl w1, Lib.hid fun j h hj => absurd hj (Nat.not_lt_zero _)⟩
  case round =>
    obtain ⟨k, hk, hk50, rfl, hE, HALL⟩ := hrel
    have hb := b0.ext hE
    have x4 : wr.cell? ⟨w.heap.size, 4, none⟩ = some (.slice am M.length cm) := hb.cell 4
    have x5 : wr.cell? ⟨w.heap.size, 5, none⟩ = some (.slice ak n ck) := hb.cell 5
    have hMr := hM0.ext hE
    by_cases hgo : k < n ∧ k < 50
    · obtain ⟨hlt, h50⟩ := hgo
      have hkp : k < K.length := by rw [← HN.out]; exact hlt
      obtain ⟨b, o, rfl, y0⟩ := HGET.out k hkp
      replace y0 := (hE0.trans hE).cell y0
      have hbs := HKB.out _ (List.getElem_mem hkp)
      unfold maxLen at hbs
      obtain ⟨s, hs⟩ : ∃ s, s = K[k] := ⟨_, rfl⟩
      rw [← hs] at y0 hbs
      have HS := Lib.hid hs
      clear hs
      have t1 : decide ((k : Int) < (n : Int)) = true := by simpa using hlt
      have t2 : decide ((k : Int) < 50) = true := by simp; omega
      cases q1 : decide ((300 : Int) < (s.size : Int))
      · have hs3 : s.size ≤ 300 := by simp at q1; omega
        go_wp2_with fail
        go_roundw
        case rel =>
          refine ⟨k + 1, by omega, by omega, by go_num, hE, Lib.hid fun j h hj => ?_⟩
          by_cases hjk : j < k
          · exact HALL.out j h hjk
          · obtain rfl : j = k := by omega
            rw [← HS.out]
            exact hs3
        case measure => simp [intOf] <;> omega
      · go_wp2_with fail
        go_ret
        exact ⟨false, rfl, nofun, hE0.trans hE⟩
    · have HFIN : Hid (n ≤ 50 → ∀ s ∈ K, s.size ≤ 300) := Lib.hid fun h s hs => by
        obtain ⟨j, hj, rfl⟩ := List.getElem_of_mem hs
        exact HALL.out j hj (by have := HN.out; omega)
      clear HALL
      have hor : k = n ∨ (k < n ∧ k = 50) := by omega
      cases q2 : decide ((n : Int) ≤ 50)
      · rcases hor with rfl | ⟨h1, rfl⟩
        · exfalso; simp at q2; omega
        · have t1 : decide (((50 : Nat) : Int) < (n : Int)) = true := by simp; omega
          go_wp2_with fail
          go_ret
          exact ⟨false, rfl, nofun, hE0.trans hE⟩
      · have hn50 : n ≤ 50 := by simp at q2; omega
        rcases hor with rfl | ⟨h1, rfl⟩
        · have t1 : decide ((k : Int) < (k : Int)) = false := by simp
          go_wp2_with (go_at_call 31; go_must (refine (fewMuts_any _ M 20 10 _ hMr).mono ?_); rintro e w2 ⟨B, rfl, hB, hE2⟩; have HB := Lib.hid hB; clear hB)
          go_ret
          exact ⟨B, rfl, fun h => ⟨⟨hn50, HFIN.out hn50⟩, HB.out h⟩, (hE0.trans hE).trans hE2⟩
        · exfalso; omega
end Go.Proofs.YtfagnbofnaoncaaGreatDoor

/- Slices and structs that come in, read. -/
namespace Go.Proofs.YtfagnbofnaoncaaGreatDoor
open Go Go.RowKit Go.ChangeShapes Go.WideShapes Go.ChangeAt

theorem flat_get {α β : Type} {f : α → List β} {n : Nat} : ∀ {l : List α} {j : Nat} {u : β}, (∀ a ∈ l, (f a).length = n) → (l.flatMap f)[j]? = some u → ∃ (k : Nat) (h : k < l.length) (r : Nat), r < n ∧ j = k * n + r ∧ (f l[k])[r]? = some u
  | [], j, u, _, h => by simp at h
  | a :: l, j, u, hn, h => by
    have ha := hn a (List.mem_cons_self ..)
    rw [List.flatMap_cons] at h
    by_cases hj : j < n
    · rw [List.getElem?_append_left (by omega)] at h
      exact ⟨0, by simp, j, hj, by omega, h⟩
    · rw [List.getElem?_append_right (by omega), ha] at h
      obtain ⟨k, hk, r, hr, e, hu⟩ := flat_get (fun b hb => hn b (List.mem_cons_of_mem _ hb)) h
      exact ⟨k + 1, by simpa using hk, r, hr, by rw [Nat.succ_mul]; omega, by simpa using hu⟩
theorem list_of {α : Type} {p : Nat → α → Prop} : ∀ n, (∀ i, i < n → ∃ a, p i a) → ∃ l : List α, l.length = n ∧ ∀ i (h : i < l.length), p i l[i]
  | 0, _ => ⟨[], rfl, fun i h => absurd h (Nat.not_lt_zero _)⟩
  | n + 1, h => by
    obtain ⟨l, hl, hp⟩ := list_of n (fun i hi => h i (by omega))
    obtain ⟨a, ha⟩ := h n (by omega)
    refine ⟨l ++ [a], by simp [hl], fun i hi => ?_⟩
    by_cases hlt : i < l.length
    · rw [List.getElem_append_left hlt]; exact hp i hlt
    · have e : i = l.length := by simp at hi; omega
      subst e
      rw [List.getElem_append_right (Nat.le_refl _)]
      simpa [hl] using ha

section
variable {H : Type} {enc : TypeId × Value → H} {P : Program} {W : World} {spare : Nat → Bool} {held : Bool} {n : Nat} {cs : List Value} {x : DataW H × List MemPlace}
theorem read_slice {α : Type} {T e : TypeId} {size fuel : Nat} (ht : P.underlying T = some (.slice e)) (hs : P.cellsOf e = size) (hpos : 0 < size) (f : α → List Value) (Q : α → Prop)
    (h1 : ∀ n cs x, DataW.trod enc P W 0 spare held n e cs = some x → ∃ a, cs = f a ∧ Q a) (h : DataW.trod enc P W 0 spare held fuel T cs = some x) :
    ∃ v, cs = [v] ∧ ∃ l : List α, SliceIn W v l.length (l.flatMap f) ∧ ∀ a ∈ l, Q a := by
  rcases DataW.trod_slice ht h with ⟨rfl, _⟩ | ⟨a, len, cap, elems, rest, n, _, rfl, _, _, hl, hm, hlen, hel, _⟩
  · exact ⟨_, rfl, [], SliceIn.nil W, nofun⟩
  · have each : ∀ i, i < len → ∃ b : α, W.cells? 0 (a.add (i * size)) size = some (f b) ∧ Q b := by
      intro i hi
      have := hel i hi
      rw [List.getElem?_eq_getElem (by omega), hs, Option.bind_eq_some_iff] at this
      obtain ⟨cs', h2, h3⟩ := this
      obtain ⟨b, rfl, hq⟩ := h1 _ _ _ h3
      exact ⟨b, h2, hq⟩
    obtain ⟨l, hll, hp⟩ := list_of len each
    have flen : ∀ b ∈ l, (f b).length = size := by
      intro b hb
      obtain ⟨i, hi, rfl⟩ := List.getElem_of_mem hb
      exact (World.cells?_some (hp i hi).1).2.1
    refine ⟨_, rfl, l, ⟨some a, cap, by rw [hll], by rw [hll]; exact hl, hm, nofun, fun j u hj => ?_⟩, fun b hb => ?_⟩
    · obtain ⟨k, hk, r, hr, rfl, hu⟩ := flat_get flen hj
      have h2 := (World.cells?_some (hp k hk).1).2.2 r hr
      rw [hu] at h2
      obtain ⟨b, o, s⟩ := a
      cases s with
      | none =>
        rw [Addr.add_lit, Addr.add_lit] at h2
        exact ⟨b, o, rfl, by rw [← Nat.add_assoc]; exact h2⟩
      | some s =>
        exfalso
        have h0 := (World.cells?_some (hp 0 (by omega)).1).2.2 0 hpos
        rw [Nat.zero_mul] at h0
        simp only [Addr.add, if_pos] at h0
        unfold World.cell? at h0
        have hf0 : (f l[0])[0]? ≠ none := by
          rw [Ne, List.getElem?_eq_none_iff, flen _ (List.getElem_mem _)]
          omega
        split at h0 <;> simp at h0 <;> exact hf0 (by simp [← h0])
    · obtain ⟨i, hi, rfl⟩ := List.getElem_of_mem hb
      exact (hp i hi).2
theorem fld_string {t : TypeId} {o : Nat} {y : DataW H × List MemPlace} (ht : P.underlying t = some .string) (hc : P.cellsOf t = 1) (h : DataW.trod enc P W 0 spare held n t ((cs.drop o).take (P.cellsOf t)) = some y) : ∃ s : ByteArray, cs[o]? = some (.string s) := by
  obtain ⟨s, e, _⟩ := DataW.trod_string ht h
  rw [hc] at e
  exact ⟨s, cell_of_cut e⟩
theorem fld_int {t : TypeId} {o : Nat} {y : DataW H × List MemPlace} {k : IntKind} (ht : P.underlying t = some (.int k)) (hc : P.cellsOf t = 1) (h : DataW.trod enc P W 0 spare held n t ((cs.drop o).take (P.cellsOf t)) = some y) : ∃ s : Int, cs[o]? = some (.int k s) ∧ (Lit.int k s).wf = true := by
  obtain ⟨s, e, _, hw⟩ := DataW.trod_int ht h
  rw [hc] at e
  exact ⟨s, cell_of_cut e, hw⟩
theorem fld_bool {t : TypeId} {o : Nat} {y : DataW H × List MemPlace} (ht : P.underlying t = some .bool) (hc : P.cellsOf t = 1) (h : DataW.trod enc P W 0 spare held n t ((cs.drop o).take (P.cellsOf t)) = some y) : ∃ s : Bool, cs[o]? = some (.bool s) := by
  obtain ⟨s, e, _⟩ := DataW.trod_bool ht h
  rw [hc] at e
  exact ⟨s, cell_of_cut e⟩
theorem list3 {α : Type} {l : List α} {a b c : α} (h : l.length = 3) (h0 : l[0]? = some a) (h1 : l[1]? = some b) (h2 : l[2]? = some c) : l = [a, b, c] := by
  match l, h with
  | [x, y, z], _ => simp at h0 h1 h2; rw [h0, h1, h2]
theorem list4 {α : Type} {l : List α} {a b c d : α} (h : l.length = 4) (h0 : l[0]? = some a) (h1 : l[1]? = some b) (h2 : l[2]? = some c) (h3 : l[3]? = some d) : l = [a, b, c, d] := by
  match l, h with
  | [x, y, z, u], _ => simp at h0 h1 h2 h3; rw [h0, h1, h2, h3]
theorem list5 {α : Type} {l : List α} {a b c d e : α} (h : l.length = 5) (h0 : l[0]? = some a) (h1 : (l.drop 1).take 4 = [b, c, d, e]) : l = [a, b, c, d, e] := by
  match l, h with
  | [x, y, z, u, v], _ => simp at h0 h1; simp [h0, h1]
theorem list8 {α : Type} {l : List α} {a b c d e f g i : α} (h : l.length = 8) (h0 : l[0]? = some a) (h1 : (l.drop 1).take 4 = [b, c, d, e]) (h5 : l[5]? = some f) (h6 : l[6]? = some g) (h7 : l[7]? = some i) : l = [a, b, c, d, e, f, g, i] := by
  match l, h with
  | [x, y, z, u, v, p, q, r], _ => simp at h0 h1 h5 h6 h7; simp [h0, h1, h5, h6, h7]
end
theorem cells_string : Tryz.prog.cellsOf 9 = 1 := by kernel_rfl
theorem cells_int : Tryz.prog.cellsOf 3 = 1 := by kernel_rfl
theorem cells_bool : Tryz.prog.cellsOf 4 = 1 := by kernel_rfl
end Go.Proofs.YtfagnbofnaoncaaGreatDoor
