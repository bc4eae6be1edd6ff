/- ProjectMirrors: the mirror of a row is seen just where the view has it: the law's walk. -/
import Derived.Test.YteamiiekpjoclaaM15
import Derived.Test.YteamiiekpjoclaaM19
import Derived.Test.YteamiiekpjoclaaM20
import Derived.Test.YteamiiekpjoclaaM22
import Derived.Test.YteamiiekpjoclaaM24
import Derived.Test.YteamiiekpjoclaaM4
namespace Go.Proofs.Yteamiiekpjoclaa
open Go Go.RowKit
attribute [local go_sem] yields yUpon ro8 pa3 vw5 tabV viewV co5

def mV : Vw := ⟨⟨#[118]⟩, 2, ⟨#[116]⟩, ⟨#[97]⟩⟩
def mNs : List ByteArray := [⟨#[98]⟩, ⟨#[100]⟩]
theorem distN_up {l : List Co} (h : Up kCo l) : DistN l := by
  induction l with
  | nil => intro k hk; exact absurd hk (Nat.not_lt_zero _)
  | cons c l ih =>
    intro k hk
    cases k with
    | zero => unfold cellOf; rw [if_pos (by simp)]; rfl
    | succ k =>
      have hk' : k < l.length := by simpa using hk
      have hne : kCo c ≠ kCo l[k] := ne_of_lt (h.head _ (List.getElem_mem hk'))
      show cellOf (c :: l) l[k].name = l[k].cell
      unfold cellOf
      rw [if_neg (by unfold kCo at hne; rw [ByteArray.toList_eq, ByteArray.toList_eq]; simpa using hne)]
      exact ih h.tail k hk'
theorem up_filter {l : List Co} (h : Up kCo l) (f : Co → Bool) : Up kCo (l.filter f) := List.Pairwise.filter _ h
/-- The row of a mirror by numbers. -/
theorem full_row {x : Vw} {ns : List ByteArray} {pk : ByteArray} {pg : Int} {l : List Ro} (h : NumRs l) {p : ByteArray × Ro} (hp : p ∈ fullRs x ns pk pg l) : DistN p.2.cols ∧ p.2.cols.length ≤ 4 := by
  obtain ⟨r, hr, e⟩ := List.mem_filterMap.1 hp
  unfold mirOf at e
  split at e
  · cases e
    exact ⟨distN_up (up_filter (h.row r hr).up _), Nat.le_trans (List.length_filter_le _ _) (h.row r hr).len⟩
  · cases e
theorem outQ_at {L : List Pa} {l : List (ByteArray × Ro)} (h : L.map Pa.data = outQ l) : L.length = l.length ∧ ∀ (k : Nat) (h1 : k < L.length) (h2 : k < l.length), L[k].key = l[k].1 ∧ L[k].gone = 0 ∧ L[k].ps.map (·.1) = [l[k].2] := by
  have hl : L.length = l.length := by have := congrArg List.length h; simpa [outQ] using this
  refine ⟨hl, fun k h1 h2 => ?_⟩
  have : (L.map Pa.data)[k]'(by simpa using h1) = (outQ l)[k]'(by simpa [outQ] using h2) := by congr 1
  simp only [outQ, List.getElem_map, Pa.data, Prod.mk.injEq] at this
  exact this
theorem seen_one (r : Ro) (g t : Int) (s : Bool) : seenRs [r] g t s = if isB r (max r.gone g) t s then [seenRo r g t] else [] := by
  unfold seenRs
  by_cases h : isB r (max r.gone g) t s <;> simp [h]
theorem ik_small8 (i : Nat) (h : i < 4) : (ik i).size ≤ 10000000 ∧ (vkey ⟨#[109]⟩ (ik i)).size ≤ 400 := by
  obtain rfl | rfl | rfl | rfl : i = 0 ∨ i = 1 ∨ i = 2 ∨ i = 3 := by omega
  all_goals decide

set_option maxRecDepth 100000 in
set_option maxHeartbeats 16000000 in
theorem law_projectMirrors (v0 : Value) (z : List Int) (now : Int) (w : World) (hin : IntsIn w v0 .i64 z) (hz : z.length ≤ 60) :
    Calls Try.prog 8 #[v0, .int .i64 now] w fun e w' => e = .returned (.bool true) ∧ Ext w w' := by
  obtain ⟨a, c, rfl, hc, hcm, ha⟩ := hin.block
  go_enter Try.func8, Try.ntmps8
  go_wp2_with fail
  refine (view_any w).mono ?_
  rintro e w1 ⟨bs, bu, rfl, hns, hE1⟩
  go_wp2_with (first
    | (((guard_target =~ wpList _ _ _ (Oper.mk none (Op.store _ (Operand.tmp 5) (Operand.tmp 20)) _ _ _ _ :: _) _ _); go_must (refine storeBox rfl 28 (.tmp 5) (.tmp 20) rfl (w1.heap.size) _ _ _ (by rfl) (by rfl) (((BoxAt.made w1 #[.string ⟨#[]⟩, .int .i64 0, .string ⟨#[]⟩, .int .i64 0, .string ⟨#[]⟩, .int .i64 0, .slice none 0 0] 28).ext ((Ext.refl _).alloc _))) (by kernel_rfl) (by rfl) (by simp [Value.oneCell']) ?_); intro w2 c2 g2); have hX2 : Ext w1 w2 := (((Ext.refl w1).alloc _).alloc _).grown g2 (fun q hq => by cases hq; omega); have hv2 := (BoxAt.madeN #[.string ⟨#[]⟩, .int .i64 0, .string ⟨#[]⟩, .string ⟨#[]⟩, .slice none 0 0] 31 (show (w1.alloc (.cells #[.string ⟨#[]⟩, .int .i64 0, .string ⟨#[]⟩, .int .i64 0, .string ⟨#[]⟩, .int .i64 0, .slice none 0 0] 28)).heap.size = w1.heap.size + 1 by simp)).grown g2 (fun e => by have := Option.some.inj e; omega))
    | (((guard_target =~ wpList _ _ _ (Oper.mk none (Op.store _ (Operand.tmp 6) (Operand.tmp 21)) _ _ _ _ :: _) _ _); go_must (refine storeBox rfl 31 (.tmp 6) (.tmp 21) rfl (w1.heap.size + 1) _ _ _ (by rfl) (by rfl) (hv2) (by kernel_rfl) (by rfl) (by simp [Value.oneCell']) ?_); intro w3 c3 g3); have hX3 : Ext w1 w3 := hX2.grown g3 (fun q hq => by cases hq; omega); have b2 : BoxAt w3 w1.heap.size #[.string ⟨#[116]⟩, .int .i64 1, .string ⟨#[112]⟩, .int .i64 1, .string ⟨#[107]⟩, .int .i64 2, .slice (some ⟨bs, 0, none⟩) 4 4] 28 := c2.grown g3 (fun e => by have := Option.some.inj e; omega); have b3 : BoxAt w3 (w1.heap.size + 1) (vw5 mV (.slice (some ⟨bu, 0, none⟩) 2 2)) 31 := c3))
  have hE3 : Ext w w3 := hE1.trans hX3
  obtain ⟨bt, hbt⟩ : ∃ b, b = w1.heap.size := ⟨_, rfl⟩
  obtain ⟨bv, hbv⟩ : ∃ b, b = w1.heap.size + 1 := ⟨_, rfl⟩
  rw [← hbv] at b3
  rw [← hbt] at b2
  rw [← hbv, ← hbt]
  replace hns := hns.ext hX3
  have hl3 := b3.lt
  refine (made_any _ z ⟨#[109]⟩ w3 (hin.ext hE3)).mono ?_
  rintro e w4 ⟨⟨pk, pg, prv, ps⟩, rfl, ⟨hpk, hpg, hgr⟩, hrows, hE4⟩
  simp only at hpk hpg hgr hrows
  obtain ⟨ar, cr, rfl⟩ := hrows.shape
  have hnum := hgr.num
  obtain ⟨n, hn⟩ : ∃ n, n = ps.length := ⟨_, rfl⟩
  rw [← hn] at hrows ⊢
  have HN := Lib.hid hn
  have HNUM := Lib.hid hnum
  have hn4 : n ≤ 4 := by have := hnum.len; rw [List.length_map] at this; omega
  clear hn hnum hgr hpk c2 c3 hv2 hX2
  clear hbt hbv
  obtain ⟨TB, hTB⟩ : ∃ T : Array Value, T = #[.string ⟨#[116]⟩, .int .i64 1, .string ⟨#[112]⟩, .int .i64 1, .string ⟨#[107]⟩, .int .i64 2, .slice (some ⟨bs, 0, none⟩) 4 4] := ⟨_, rfl⟩
  have HTB := Lib.hid hTB
  rw [← hTB] at b2
  clear hTB
  obtain ⟨T, hT⟩ : ∃ T, T = now % 14 := ⟨_, rfl⟩
  have hT0 : 0 ≤ T := by omega
  have HT := Lib.hid hT
  clear hT
  go_wp2_with (((guard_target =~ wpList _ _ _ (Oper.mk none (Op.store _ (Operand.tmp 7) (Operand.tmp 23)) _ _ _ _ :: _) _ _); go_must (refine storeBox rfl 39 (.tmp 7) (.tmp 23) rfl (w4.heap.size) _ _ _ (by rfl) (by rfl) ((BoxAt.made w4 (pa3 ⟨#[]⟩ 0 (.slice none 0 0)) 39)) (by kernel_rfl) (by rfl) (by simp [Value.oneCell']) ?_); intro w5 c5 g5); have hX5 : Ext w4 w5 := ((Ext.refl w4).alloc _).grown g5 (fun q hq => by cases hq; omega); have d5 : BoxAt w5 w4.heap.size (pa3 ⟨#[109]⟩ pg (.slice ar n cr)) 39 := c5)
  refine (place_any now 14 (by decide) (by decide) w5).mono ?_
  rw [← HT.out]
  rintro e w6 ⟨rfl, rfl⟩
  have hE5 : Ext w w5 := hE3.trans (hE4.trans hX5)
  have hr5 := hrows.ext hX5
  have hns5 : StrsIn w5 _ mNs := hns.ext (hE4.trans hX5)
  have hcl : ∀ p ∈ ps, p.1.cols.length ≤ 4 := fun p hp => (HNUM.out.row p.1 (List.mem_map_of_mem hp)).len
  have hky : ∀ p ∈ ps, p.1.key.size ≤ 10000000 ∧ (vkey ⟨#[109]⟩ p.1.key).size ≤ 400 := fun p hp => by
    obtain ⟨i, hi, e⟩ := HNUM.out.key p.1 (List.mem_map_of_mem hp)
    rw [e]
    exact ik_small8 i hi
  have HCL := Lib.hid hcl
  have HKY := Lib.hid hky
  have d2 := b2.ext (hE4.trans hX5)
  have d3 := b3.ext (hE4.trans hX5)
  have yt : ∀ i, w5.cell? ⟨bt, i, none⟩ = TB[i]? := (fun i => d2.cell i)
  have yv : ∀ i, w5.cell? ⟨bv, i, none⟩ = (vw5 mV (.slice (some ⟨bu, 0, none⟩) 2 2))[i]? := (fun i => d3.cell i)
  have yp : ∀ i, w5.cell? ⟨w4.heap.size, i, none⟩ = (pa3 ⟨#[109]⟩ pg (.slice ar n cr))[i]? := (fun i => d5.cell i)
  rw [HTB.out] at yt
  clear c5 g5 b2 b3 hns hrows hX5 hE4 hX3 hE1 hcl hky
  go_wp2_with fail
  refine (projseen_any (.slice (some ⟨bs, 0, none⟩) 4 4) mV (.slice (some ⟨bu, 0, none⟩) 2 2) mNs ⟨#[109]⟩ pg _ ps T w5 hr5.rows (by have := HN.out; omega) (fun p hp => by have := HCL.out p hp; omega) hns5 (by decide) HKY.out).mono ?_
  rintro e w6 ⟨v6, rfl, L6, hown6, hrs6, hdata6, hE6⟩
  have hpt6 : PartsT w6 v6 L6 := ⟨TIn.own hown6, hrs6⟩
  obtain ⟨a6, c6, rfl, hc6, hcm6, hget6⟩ := hpt6.get
  have e2 := d2.ext hE6
  have e3 := d3.ext hE6
  have e5 := d5.ext hE6
  have yt : ∀ i, w6.cell? ⟨bt, i, none⟩ = TB[i]? := fun i => e2.cell i
  have yv : ∀ i, w6.cell? ⟨bv, i, none⟩ = (vw5 mV (.slice (some ⟨bu, 0, none⟩) 2 2))[i]? := fun i => e3.cell i
  have yp : ∀ i, w6.cell? ⟨w4.heap.size, i, none⟩ = (pa3 ⟨#[109]⟩ pg (.slice ar n cr))[i]? := fun i => e5.cell i
  rw [HTB.out] at yt
  obtain ⟨n6, hn6⟩ : ∃ n, n = L6.length := ⟨_, rfl⟩
  rw [← hn6] at hc6 ⊢
  have HN6 := Lib.hid hn6
  have HG6 := Lib.hid hget6
  have HD6 := Lib.hid hdata6
  have HR6 := Lib.hid hrs6
  clear hown6 hdata6 hrs6 d2 d3 d5 hn6 hget6 hpt6
  go_wp2_with fail
  refine (full_any (.slice (some ⟨bs, 0, none⟩) 4 4) mV (.slice (some ⟨bu, 0, none⟩) 2 2) mNs ⟨#[109]⟩ pg _ ps w6 (hr5.ext hE6).rows (by have := HN.out; omega) (fun p hp => by have := HCL.out p hp; omega) (hns5.ext hE6) (by decide) HKY.out).mono ?_
  rintro e w7 ⟨v7, rfl, L7, hown7, hrs7, hdata7, hE7⟩
  have hpt7 : PartsT w7 v7 L7 := ⟨TIn.own hown7, hrs7⟩
  obtain ⟨a7, c7, rfl, hc7, hcm7, hget7⟩ := hpt7.get
  obtain ⟨n7, hn7⟩ : ∃ n, n = L7.length := ⟨_, rfl⟩
  rw [← hn7] at hc7 ⊢
  obtain ⟨F, hF⟩ : ∃ F, F = fullRs mV mNs ⟨#[109]⟩ pg (ps.map (·.1)) := ⟨_, rfl⟩
  have hV : viewRs mV mNs ⟨#[109]⟩ pg T (ps.map (·.1)) = F.filterMap (selP T) := by rw [hF]; exact (view_full ..).symm
  obtain ⟨hl6, hat6⟩ := outQ_at HD6.out
  obtain ⟨hl7, hat7⟩ := outQ_at hdata7
  rw [hV] at hl6 hat6
  rw [← hF] at hl7 hat7
  have hn60 : n6 = (F.filterMap (selP T)).length := HN6.out.trans hl6
  have hn70 : n7 = F.length := hn7.trans hl7
  have hrow : ∀ p ∈ F, DistN p.2.cols ∧ p.2.cols.length ≤ 4 := fun p hp => full_row HNUM.out (hF ▸ hp)
  have hE07 : Ext w w7 := (hE5.trans hE6).trans hE7
  have hF4 : F.length ≤ 4 := by rw [hF]; exact Nat.le_trans (List.length_filterMap_le _ _) (by rw [List.length_map]; have := HN.out; omega)
  have H60 := Lib.hid hn60
  have H70 := Lib.hid hn70
  have HROW := Lib.hid hrow
  have HA6 := Lib.hid hat6
  have HA7 := Lib.hid hat7
  have HL6 := Lib.hid hl6
  have HL7 := Lib.hid hl7
  have HN7 := Lib.hid hn7
  have HG7 := Lib.hid hget7
  have HR7 := Lib.hid hrs7
  have hsz7 : n7 ≤ 4 := by omega
  have hsz6 : n6 ≤ 4 := by rw [hn60]; exact Nat.le_trans (List.length_filterMap_le _ _) hF4
  clear yt yv yp e2 e3 e5 hV hF hl6 hl7 hat6 hat7 hn60 hn70 hrow hF4 hn7 hget7 hrs7 hdata7 hown7 hpt7 hr5 hns5 HD6
  go_wp2_with fail
  go_loopw [10, 12] (fun kk i wr => ∃ (j k : Nat), j ≤ n7 ∧ i = .int .i64 j ∧ kk = .int .i64 k ∧ Hid (k = ((F.take j).filterMap (selP T)).length) ∧ k ≤ n6 ∧ Ext w7 wr) (fun _ i _ => n7 - (intOf i).toNat)
  case atStart => exact ⟨0, 0, Nat.zero_le _, rfl, rfl, rfl, Nat.zero_le _, Ext.refl _⟩
  case round =>
    obtain ⟨j, k, hj, rfl, rfl, HK, hk6, hE⟩ := hrel
    by_cases hlt : j < n7
    · have hjF : j < F.length := by have := H70.out; omega
      have hjL : j < L7.length := by have := HN7.out; omega
      obtain ⟨b7, rfl, hp7⟩ := HG7.out j hjL
      obtain ⟨hk7, hg7, hm7⟩ := HA7.out j hjL hjF
      have hr7 := (HR7.out _ (List.getElem_mem hjL)).ext hE
      obtain ⟨hd7, hlc7⟩ := HROW.out _ (List.getElem_mem hjF)
      have hnx := fm_next (f := selP T) hjF
      have hhit := fun q => fm_hit (f := selP T) (q := q) hjF
      replace hp7 := hp7.ext hE
      obtain ⟨P, hP⟩ : ∃ P, P = L7[j] := ⟨_, rfl⟩
      rw [← hP] at hk7 hg7 hm7 hr7 hp7
      clear hP
      obtain ⟨Q, hQ⟩ : ∃ Q, Q = F[j] := ⟨_, rfl⟩
      rw [← hQ] at hk7 hm7 hd7 hlc7 hnx
      rw [← hQ] at hhit
      clear hQ
      obtain ⟨pk7, pg7, prv7, ps7⟩ := P
      simp only at hk7 hg7 hm7 hr7
      subst hk7 hg7
      obtain ⟨ar7, cr7, rfl⟩ := hr7.shape
      obtain ⟨vm, bm, rfl, rfl, _⟩ := hr7.single hm7
      obtain ⟨x0, x1, x2⟩ := hp7
      simp only [List.length_cons, List.length_nil, Nat.zero_add] at hr7 x2
      obtain ⟨qk, qr⟩ := Q
      simp only at hd7 hlc7 x0 x1 hr7
      obtain ⟨B, hB⟩ : ∃ B, B = isB qr (max qr.gone 0) T true := ⟨_, rfl⟩
      have hsel : selP T (qk, qr) = if B then some (qk, seenRo qr 0 T) else none := by rw [hB]; rfl
      rw [hsel] at hnx hhit
      have HNX := Lib.hid hnx
      have HHIT := Lib.hid hhit
      have HB := Lib.hid hB
      clear hsel hnx hhit hB hm7
      go_wp2_with fail
      refine (seen8_any qk 0 (.slice (some ⟨bm, 0, none⟩) 1 cr7) [(qr, vm)] T true wr hr7.rows (by simp) (fun p hp => by rw [List.mem_singleton.1 hp]; show qr.cols.length ≤ 400000; omega) (fun p hp => by rw [List.mem_singleton.1 hp]; exact hd7)).mono ?_
      rintro e w8 ⟨v8, rfl, qs8, hown8, hsafe8, hqm8, hE8⟩
      have hqm : qs8.map (·.1) = if B then [seenRo qr 0 T] else [] := by rw [hqm8, HB.out]; exact seen_one qr 0 T true
      obtain ⟨a8, c8, rfl⟩ := own_shape hown8
      have hR8 : RowsIn w8 (.slice a8 qs8.length c8) qs8 := rows_own hown8 hE8 hsafe8
      replace x0 := hE8.cell x0
      replace x1 := hE8.cell x1
      replace x2 := hE8.cell x2
      have hEE := hE.trans hE8
      obtain ⟨n8, hn8⟩ : ∃ n, n = qs8.length := ⟨_, rfl⟩
      rw [← hn8] at hR8 ⊢
      clear hown8 hsafe8 hqm8 hE8 hr7 hE
      cases B with
      | false =>
        have hz8 : qs8 = [] := by simpa using hqm
        have hn80 : n8 = 0 := by rw [hn8, hz8]; rfl
        subst hn80
        have HK2 : Hid (k = ((F.take (j + 1)).filterMap (selP T)).length) := by
          show _ = _
          rw [HNX.out, HK.out]
          simp
        clear hz8 hn8 hR8 hqm HK HNX HHIT
        go_wp2_with fail
        go_roundw
        case rel => exact ⟨j + 1, k, by omega, by go_num, rfl, HK2, hk6, hEE⟩
        case measure => simp [intOf] <;> omega
      | true =>
        have hq8 : qs8.map (·.1) = [seenRo qr 0 T] := by simpa using hqm
        have hn81 : n8 = 1 := by rw [hn8]; have := congrArg List.length hq8; simpa using this
        subst hn81
        have HK2 : Hid (k + 1 = ((F.take (j + 1)).filterMap (selP T)).length) := by
          show _ = _
          rw [HNX.out, HK.out]
          simp
        have hh := HHIT.out (qk, seenRo qr 0 T) rfl
        rw [← HK.out] at hh
        have hkF : k < (F.filterMap (selP T)).length := (List.getElem?_eq_some_iff.1 hh).1
        have hkv : (F.filterMap (selP T))[k] = (qk, seenRo qr 0 T) := (List.getElem?_eq_some_iff.1 hh).2
        have hk6' : k < n6 := by rw [H60.out]; exact hkF
        have hkL : k < L6.length := by rw [← HN6.out]; exact hk6'
        obtain ⟨b6, rfl, hp6⟩ := HG6.out k hkL
        obtain ⟨hk6k, _, hk6m⟩ := HA6.out k hkL hkF
        rw [hkv] at hk6k hk6m
        have hr6 := (HR6.out _ (List.getElem_mem hkL)).ext (hE7.trans hEE)
        replace hp6 := hp6.ext (hE7.trans hEE)
        obtain ⟨P, hP⟩ : ∃ P, P = L6[k] := ⟨_, rfl⟩
        rw [← hP] at hk6k hk6m hr6 hp6
        clear hP hkv hh
        obtain ⟨pk6, pg6, prv6, ps6⟩ := P
        simp only at hk6k hk6m hr6
        subst hk6k
        obtain ⟨y0, _, y2⟩ := hp6
        simp only at y0 y2
        have hsame : qs8.map (·.1) = ps6.map (·.1) := by rw [hq8, hk6m]
        have HSAME := Lib.hid hsame
        have tki : decide (n6 ≤ k) = false := by simp; omega
        clear hq8 hn8 hqm HK HNX HHIT hkF hk6m hsame
        go_wp2_with fail
        refine wp_region_tab 27 [(24, fun v _ => v = .bool true)] (by kernel_rfl) (by kernel_rfl) (by kernel_rfl) ⟨stays_eq _, trivial⟩ ?_
        replace x0 := held x0
        replace y0 := held y0
        replace y2 := held y2
        refine rg_quiet rfl rfl rfl rfl ?_; intro K hK; go_big_quiet_op; go_big_quiet_on
        refine rg_quiet rfl rfl rfl rfl ?_; intro K hK; go_big_quiet_op; go_big_quiet_on
        refine rg_quiet rfl rfl rfl rfl ?_; intro K hK; go_big_quiet_op; go_big_quiet_on
        refine rg_quiet rfl rfl rfl rfl ?_; intro K hK; go_big_quiet_op; go_big_quiet_on
        refine rg_quiet rfl rfl rfl rfl ?_; intro K hK; go_big_quiet_op; go_big_quiet_on
        refine rg_quiet rfl rfl rfl rfl ?_; intro K hK; go_big_quiet_op; go_big_quiet_on
        refine rg_quiet rfl rfl rfl rfl ?_; intro K hK; go_big_quiet_op; go_big_quiet_on
        refine rg_quiet rfl rfl rfl rfl ?_; intro K hK; go_big_quiet_op; go_big_quiet_on
        refine rg_quiet rfl rfl rfl rfl ?_; intro K hK; go_big_quiet_op; go_big_quiet_on
        refine rg_quiet rfl rfl rfl rfl ?_; intro K hK; go_big_quiet_op; go_big_quiet_on
        refine rg_quiet rfl rfl rfl rfl ?_; intro K hK; go_big_quiet_op; go_big_quiet_on
        refine rg_quiet rfl rfl rfl rfl ?_; intro K hK; go_big_quiet_op; go_big_quiet_on
        refine rg_quiet rfl rfl rfl rfl ?_; intro K hK; go_big_quiet_op; go_big_quiet_on
        refine rg_quiet rfl rfl rfl rfl ?_; intro K hK; go_big_quiet_op; go_big_quiet_on
        refine rg_quiet rfl rfl rfl rfl ?_; intro K hK; go_big_quiet_op; go_big_quiet_on
        refine rg_quiet rfl rfl rfl rfl ?_; intro K hK; go_big_quiet_op; go_big_quiet_on
        refine rg_quiet rfl rfl rfl rfl ?_; intro K hK; go_big_quiet_op; go_big_quiet_on
        refine rg_quiet rfl rfl rfl rfl ?_; intro K hK; go_big_quiet_op; go_big_quiet_on
        refine rg_quiet rfl rfl rfl rfl ?_; intro K hK; go_big_quiet_op; go_big_quiet_on
        refine rg_quiet rfl rfl rfl rfl ?_; intro K hK; go_big_quiet_op; go_big_quiet_on
        refine rg_quiet rfl rfl rfl rfl ?_; intro K hK; go_big_quiet_op; go_big_quiet_on
        refine rg_quiet rfl rfl rfl rfl ?_; intro K hK; go_big_quiet_op; go_big_quiet_on
        refine rg_quiet rfl rfl rfl rfl ?_; intro K hK; go_big_quiet_op; go_big_quiet_on
        refine rg_quiet rfl rfl rfl rfl ?_; intro K hK; go_big_quiet_op; go_big_quiet_on
        refine rg_val [] rfl rfl rfl (by kernel_rfl) (fun w1 hE hf => ?_) ?_
        · go_simp
          exact (sameRows_self _ _ qs8 ps6 w1 (hR8.ext hE) (hr6.ext hE).rows HSAME.out).mono fun e w' ⟨he, hw⟩ => ⟨_, he, rg_done hE hw (rfl)⟩
        simp only [Act.put, List.setIfInBounds_toArray, List.set_cons_zero, List.set_cons_succ]
        refine rg_quiet rfl rfl rfl rfl ?_; intro K hK; go_big_quiet_op; go_big_quiet_on
        refine rg_quiet rfl rfl rfl rfl ?_; intro K hK; go_big_quiet_op; go_big_quiet_on
        refine rel_nil fun w9 hE9 _ => ?_
        clear x0 x1 x2 y0 y2
        go_wp2_with fail
        go_roundw
        case rel => exact ⟨j + 1, k + 1, by omega, by go_num, by go_num, HK2, by omega, hEE.trans hE9⟩
        case measure => simp [intOf] <;> omega
    · obtain rfl : j = n7 := by omega
      have hkk : k = n6 := by rw [HK.out, H60.out, H70.out, List.take_length]
      subst hkk
      have hs : seenB false 1 0 T = true := rfl
      go_wp2_with fail
      refine (rseen_any ⟨#[120]⟩ false 1 0 T wr).mono ?_
      rw [hs]
      rintro e w8 ⟨rfl, hE8⟩
      go_wp2_with fail
      refine (pawake_any w8).mono ?_
      rintro e w9 ⟨rfl, hE9⟩
      go_wp2_with fail
      go_ret
      exact ⟨rfl, ((hE07.trans hE).trans hE8).trans hE9⟩
theorem walk_projectMirrors (v : Value) (now : Int) (W : World) (w0 : ∃ l : List Int, IntsIn W v .i64 l ∧ ∀ n ∈ l, (Lit.int .i64 n).wf = true) (_ : (Lit.int .i64 now).wf = true) :
    Calls Try.prog 8 #[v, .int .i64 now] W fun e w' => e = .returned (.bool true) ∧ Ext W w' := by
  obtain ⟨z, hin, _⟩ := w0
  by_cases hz : z.length ≤ 60
  · exact law_projectMirrors v z now W hin hz
  · obtain ⟨a, c, rfl, hc, hcm, ha⟩ := hin.block
    have k1 : decide ((60 : Int) < (z.length : Int)) = true := by simp; omega
    go_enter Try.func8, Try.ntmps8
    go_wp2_with fail
    refine (pawake_any W).mono ?_
    rintro e w10 ⟨rfl, hE10⟩
    go_wp2_with fail
    go_ret
    exact ⟨rfl, hE10⟩
end Go.Proofs.Yteamiiekpjoclaa
