/- Place: any number as one below another. -/
import Derived.Test.YtimbikbbbfpeeaaGreatDoorP10
import Derived.Test.YtimbikbbbfpeeaaGreatDoorP1
import Derived.Test.YtimbikbbbfpeeaaGreatDoorP5
import Derived.Test.YtimbikbbbfpeeaaGreatDoorProg
import Derived.Test.YtimbikbbbfpeeaaGreatDoorP48
set_option linter.unusedSimpArgs false
set_option linter.unusedVariables false
namespace Go.Proofs.YtimbikbbbfpeeaaGreatDoor
open Go Go.RowKit
set_option maxHeartbeats 400000 in
theorem place_any (v n : Int) (h : 1 ≤ n) (hn : n ≤ 9223372036854775807) (w : World) :
    Calls Tryz.prog 11 #[.int .i64 v, .int .i64 n] w fun e w' => e = .returned (.int .i64 (v % n)) ∧ w = w' := by
  have hlo := (tmod_lo (v := v) h).1
  have hhi := (tmod_lo (v := v) h).2
  by_cases h0 : v.tmod n < 0
  · have HE := Lib.hid (tmod_neg h h0)
    go_enter Tryz.func11, Tryz.ntmps11
    go_wp2
    go_ret
    exact ⟨ret_int HE.out, rfl⟩
  · have h0' : 0 ≤ v.tmod n := by omega
    have HE := Lib.hid (tmod_pos h h0')
    go_enter Tryz.func11, Tryz.ntmps11
    go_wp2
    go_ret
    exact ⟨ret_int HE.out, rfl⟩
end Go.Proofs.YtimbikbbbfpeeaaGreatDoor

/- StoreTorn: the law's walk. -/
namespace Go.Proofs.YtimbikbbbfpeeaaGreatDoor
open Go Go.RowKit
attribute [local go_sem] yields yUpon

theorem JSt.of {W0 w : World} {s : Sto} {C : Nat} {bs : List (List UInt8)} {N : Fl} (h : StoAt W0 w C s) (hL : LogOk s bs) (hq : s.q = ⟨[], N⟩) : JSt W0 w s C bs.length N s.log.size := by
  have q1 : s.ts.map Tb.q = [] := congrArg Sq.ts hq
  have q2 : s.N = N := congrArg Sq.N hq
  subst q2
  exact ⟨s.log, s.ts, bs, h, hL, rfl, by simpa using q1, Nat.le_refl _⟩
def nA (k : Nat) : Fl := (List.range k).map fun j : Nat => ((j : Int) + 1, [120])
def nC (k : Nat) : Fl := (List.range k).map fun j : Nat => (100 + (j : Int), [121])
theorem nA_succ (k : Nat) : nA (k + 1) = nA k ++ [((k : Int) + 1, [120])] := by simp [nA, List.range_succ]
theorem nC_succ (k : Nat) : nC (k + 1) = nC k ++ [(100 + (k : Int), [121])] := by simp [nC, List.range_succ]
theorem nA_len (k : Nat) : (nA k).length = k := by simp [nA]
theorem nC_len (k : Nat) : (nC k).length = k := by simp [nC]
theorem nA_lt {k : Nat} : ∀ q ∈ nA k, q.1 < (k : Int) + 1 := by
  intro q hq
  obtain ⟨j, hj, rfl⟩ := List.mem_map.1 hq
  have := List.mem_range.1 hj
  show (j : Int) + 1 < _
  omega
theorem nC_lt {k : Nat} : ∀ q ∈ nC k, q.1 < 100 + (k : Int) := by
  intro q hq
  obtain ⟨j, hj, rfl⟩ := List.mem_map.1 hq
  have := List.mem_range.1 hj
  show 100 + (j : Int) < _
  omega
theorem JSt.get {W0 w : World} {s : Sto} {C n : Nat} {N : Fl} {z : Nat} (h : JSt W0 w s C n N z) : ∃ lg bs, StoAt W0 w C { s with log := lg, ts := [], N := N } ∧ lg.data.toList = puts 0 bs ∧ goes stOk stNext ⟨[], []⟩ bs = (⟨[], N⟩, bs) ∧ bs.length = n ∧ lg.size ≤ z := by
  obtain ⟨lg, ts, bs, hS, hL, hn, rfl, hz⟩ := h
  exact ⟨lg, bs, hS, hL.log, hL.go, hn, hz⟩
set_option maxRecDepth 100000 in
set_option maxHeartbeats 8000000 in
theorem law_storeTorn (a c : Int) (jk : ByteArray) (hj : jk.size ≤ maxLen) (w : World) (hT : TabU w) :
    Calls Tryz.prog 3 #[.int .i64 a, .string jk, .int .i64 c] w fun e w' => e = .returned (.bool true) ∧ Ext w w' := by
  unfold maxLen at hj
  by_cases h300 : 300 < (jk.size : Int)
  · go_enter Tryz.func3, Tryz.ntmps3
    go_wp2_with (go_at_call 8; go_must (refine (awake12_any _ hT).mono ?_); rintro e w7 ⟨rfl, hE7⟩)
    go_ret
    exact ⟨rfl, hE7⟩
  obtain ⟨K, hK⟩ : ∃ K : Nat, (K : Int) = a % 8 := ⟨(a % 8).toNat, by have := Int.emod_nonneg a (show (8 : Int) ≠ 0 by decide); omega⟩
  obtain ⟨M, hM⟩ : ∃ M : Nat, (M : Int) = c % 5 := ⟨(c % 5).toNat, by have := Int.emod_nonneg c (show (5 : Int) ≠ 0 by decide); omega⟩
  have hK8 : K < 8 := by have := Int.emod_lt_of_pos a (show (0 : Int) < 8 by decide); omega
  have hM5 : M < 5 := by have := Int.emod_lt_of_pos c (show (0 : Int) < 5 by decide); omega
  have HK := Lib.hid hK.symm
  have HM := Lib.hid hM.symm
  clear hK hM
  go_enter Tryz.func3, Tryz.ntmps3
  go_wp2_with (first
    | (go_at_call 9; go_must (refine (sh_new w).mono ?_); rintro e w1 ⟨rfl, hw1⟩; have hs1 := sh_made w; rw [← hw1] at hs1; have hE1 : Ext w w1 := (by rw [hw1]; exact ((Ext.refl w).alloc _).alloc _); clear hw1)
    | (go_at_call 10; go_must (refine (open_puts w w1 hT hE1 (w.heap.size + 1) w.heap.size ⟨#[]⟩ 0 0 ⟨by omega, by omega⟩ hs1 [] ⟨[], []⟩ rfl rfl rfl (by decide)).mono ?_); rintro e w2 ⟨s, rfl, hS, hpd, hmf, hlog, hgood, hF, hman, hq, hTu⟩)
    | (go_at_call 11; go_must (refine (place_any _ _ (by omega) (by omega) _).mono ?_); rintro e w3 ⟨rfl, rfl⟩; first | rw [HK.out] | rw [HM.out]))
  have hJ0 : JSt w w2 s 0 0 [] 0 := by
    have h1 := JSt.of hS (LogOk.nil hlog hq) hq
    rw [hlog] at h1
    exact h1
  clear hS hlog hgood hq hTu
  go_loopw [12] (fun i wr => ∃ k : Nat, k ≤ K ∧ i = .int .i64 k ∧ JSt w wr s (512 * k) k (nA k) (300 * k)) (fun i _ => K - (intOf i).toNat)
  case atStart => exact ⟨0, Nat.zero_le _, rfl, by simpa [nA] using hJ0⟩
  case round =>
    obtain ⟨k, hk, rfl, hJ⟩ := hrel
    by_cases hlt : k < K
    · have hst := (hJ.ext ((Ext.refl wr).alloc (.cells #[.int .i64 ((k : Int) + 1), .string ⟨#[120]⟩] 32))).step (by omega) (by omega) ((k : Int) + 1) ⟨#[120]⟩ (by omega) (by omega) (by decide) nA_lt (by rw [nA_len]; omega) wr.heap.size (BoxAt.made wr _ _)
      have HS := Lib.hid hst
      clear hst
      go_wp2_with (go_at_call 12; go_must (refine HS.out.mono ?_); rintro e w4 ⟨rfl, hJ4⟩)
      go_roundw
      case rel => exact ⟨k + 1, by omega, by go_num, by rw [nA_succ]; exact hJ4⟩
      case measure => simp [intOf]; omega
    · obtain rfl : k = K := by omega
      obtain ⟨lg, bs, hS, hb, hg, hn, hz⟩ := hJ.get
      have hsh : ShelfAt wr s.pd s.mf lg s.good s.F s.man := hS.shelf
      rw [hpd, hmf, hF, hman] at hsh
      have hbase := hS.base
      have hz2 : lg.size ≤ 2100 := by omega
      have HN := Lib.hid (And.intro hb (And.intro hg hn))
      clear hb hg hn hS hJ hz
      obtain ⟨n, hn⟩ : ∃ n, n = (scan (lg ++ jk).data.toList 0).1.length := ⟨_, rfl⟩
      have hn6 : 6 * n ≤ lg.size + jk.size := by
        have := scan_few (lg ++ jk).data.toList
        rw [← ba_len, ByteArray.size_append] at this
        omega
      have HS := Lib.hid hn.symm
      obtain ⟨L, e1, e2, e3, e4, e5⟩ := torn_re (jk := jk) HN.out.1 HN.out.2.1
      rw [ByteArray.size_append] at e3
      have hif : lg.size + jk.size ≤ 262144 := by omega
      by_cases hlong : (lg.size : Int) < (L.size : Int)
      · have HE := Lib.hid (And.intro e1 e5)
        clear hn e1 e5
        go_wp2_with (first
          | (go_at_call 8; go_must (refine (awake12_any _ (hT.ext hS6.base)).mono ?_); rintro e w9 ⟨rfl, hE9⟩)
          | (go_at_call 14; go_must (refine (sh_append jk (by unfold maxLen; omega) _ hsh).mono ?_); rintro e w5 ⟨⟨rfl, ht5⟩, hs5⟩; rw [if_pos hif] at hs5 ⊢; have hE5 := ht5.ext hbase (by simp))
          | (go_at_call 10; go_must (refine (open_none w _ hT hE5 (w.heap.size + 1) w.heap.size (lg ++ jk) _ n ⟨by omega, by omega⟩ hs5 HS.out (by omega)).mono ?_); rintro e w6 ⟨s6, rfl, hS6, hpd6, hmf6, hlog6, hgood6, hF6, hman6, hq6, _⟩; rw [HE.out.1] at hlog6; have hsh6 := hS6.shelf; rw [hpd6, hmf6, hF6, hman6, hlog6] at hsh6)
          | (go_at_call 13; have q := hsh6; go_must (refine (sh_log _ hsh6).mono ?_); rintro e w7 ⟨rfl, rfl⟩)
          | (go_at_call 13; go_must (refine (sh_log _ hsh).mono ?_); rintro e w7 ⟨rfl, rfl⟩))
        go_ret
        exact ⟨rfl, hS6.base.trans hE9⟩
      · obtain ⟨hQ, hLg⟩ := e5 (by omega); have hLg2 := hLg.symm; subst hLg2; clear hLg
        have HE := Lib.hid (And.intro e1 hQ)
        clear hn e1 e5 hQ e2 e3
        go_wp2_with (first
          | (go_at_call 14; go_must (refine (sh_append jk (by unfold maxLen; omega) _ hsh).mono ?_); rintro e w5 ⟨⟨rfl, ht5⟩, hs5⟩; rw [if_pos hif] at hs5 ⊢; have hE5 := ht5.ext hbase (by simp))
          | (go_at_call 10; go_must (refine (open_none w _ hT hE5 (w.heap.size + 1) w.heap.size (lg ++ jk) _ n ⟨by omega, by omega⟩ hs5 HS.out (by omega)).mono ?_); rintro e w6 ⟨s6, rfl, hS6, hpd6, hmf6, hlog6, hgood6, hF6, hman6, hq6, _⟩; rw [HE.out.1] at hlog6; have hsh6 := hS6.shelf; rw [hpd6, hmf6, hF6, hman6, hlog6] at hsh6)
          | (go_at_call 13; have q := hsh6; go_must (refine (sh_log _ hsh6).mono ?_); rintro e w7 ⟨rfl, rfl⟩)
          | (go_at_call 13; go_must (refine (sh_log _ hsh).mono ?_); rintro e w7 ⟨rfl, rfl⟩))
        have hJ6 : JSt w w6 s6 (512 * n) k (nA k) 2100 := by
          have hq7 := hq6.trans HE.out.2
          have h1 := JSt.of (bs := bs) hS6 ⟨by rw [hlog6]; exact HN.out.1, by rw [hq7]; exact HN.out.2.1⟩ hq7
          rw [HN.out.2.2] at h1
          obtain ⟨lg', ts', bs', g1, g2, g3, g4, g5⟩ := h1
          exact ⟨lg', ts', bs', g1, g2, g3, g4, by rw [hlog6] at g5; omega⟩
        clear hsh6 hS6 hlog6 hgood6 hq6 HE HN e4
        go_loopw [14] (fun i wr => ∃ j : Nat, j ≤ M ∧ i = .int .i64 j ∧ JSt w wr s6 (512 * n + 512 * j) (k + j) (nA k ++ nC j) (2100 + 300 * j)) (fun i _ => M - (intOf i).toNat)
        case atStart => exact ⟨0, Nat.zero_le _, rfl, by simpa [nC] using hJ6⟩
        case round =>
          obtain ⟨j, hj, rfl, hJ⟩ := hrel
          by_cases hlt : j < M
          · have hst := (hJ.ext ((Ext.refl wr).alloc (.cells #[.int .i64 (100 + (j : Int)), .string ⟨#[121]⟩] 32))).step (by omega) (by omega) (100 + (j : Int)) ⟨#[121]⟩ (by omega) (by omega) (by decide) (fun q hq => (List.mem_append.1 hq).elim (fun h => by have := nA_lt q h; omega) (fun h => nC_lt q h)) (by rw [List.length_append, nA_len, nC_len]; omega) wr.heap.size (BoxAt.made wr _ _)
            have HS := Lib.hid hst
            clear hst
            go_wp2_with (go_at_call 12; go_must (refine HS.out.mono ?_); rintro e w4 ⟨rfl, hJ4⟩)
            go_roundw
            case rel => exact ⟨j + 1, by omega, by go_num, by rw [nC_succ, ← List.append_assoc]; exact hJ4⟩
            case measure => simp [intOf]; omega
          · obtain rfl : j = M := by omega
            obtain ⟨lg2, bs2, hS2, hb2, hg2, hn2, hz2⟩ := hJ.get
            have HG := Lib.hid (And.intro hb2 (And.intro hg2 hn2))
            have hkj : k + j ≤ 12 := by omega
            clear hb2 hg2 hn2 hJ hz2
            go_wp2_with (first
              | (go_at_call 15; go_must (refine (stsync_any w wr _ _ hS2).mono ?_); rintro e w4 ⟨⟨rfl, _⟩, hS4⟩; have hSz : ShelfAt w4 s6.pd s6.mf lg2 lg2.size s6.F s6.man := hS4.shelf; rw [hpd6, hmf6, hF6, hman6] at hSz)
              | (go_at_call 16; go_must (refine (sh_crash 0 (by decide) (by decide) w4 hSz).mono ?_); rintro e w5 ⟨⟨rfl, ht5⟩, hs5⟩; rw [(crash_all 0 lg2 lg2.size rfl).2, (crash_all 0 lg2 lg2.size rfl).1] at hs5; have hE5 : Ext w w5 := ht5.ext hS4.base (by simp))
              | (go_at_call 10; go_must (refine (open_puts w w5 hT hE5 (w.heap.size + 1) w.heap.size lg2 lg2.size (k + j) ⟨by omega, by omega⟩ hs5 bs2 _ HG.out.1 HG.out.2.1 HG.out.2.2 (by omega)).mono ?_); rintro e w7 ⟨s7, rfl, hS7, _, _, _, _, _, _, hq7, _⟩; have hN7 : s7.N.length = k + j := (by rw [show s7.N = nA k ++ nC j from congrArg Sq.N hq7, List.length_append, nA_len, nC_len]))
              | (go_at_call 17; go_must (refine (stnotes_any w w7 _ s7 hS7).mono ?_); rintro e w8 ⟨v8, ⟨rfl, hE8⟩, hv8⟩; obtain ⟨a8, c8, rfl, _⟩ := hv8; rw [hN7])
              | (go_at_call 8; go_must (refine (awake12_any _ (hT.ext (hS7.base.trans hE8))).mono ?_); rintro e w9 ⟨rfl, hE9⟩))
            go_ret
            exact ⟨rfl, (hS7.base.trans hE8).trans hE9⟩
theorem walk_storeTorn (a : Int) (s : ByteArray) (c : Int) (W : World) (_ : (Lit.int .i64 a).wf = true) (hs : s.size ≤ maxLen) (_ : (Lit.int .i64 c).wf = true) (hT : TabU W) :
    Calls Tryz.prog 3 #[.int .i64 a, .string s, .int .i64 c] W fun e w' => e = .returned (.bool true) ∧ Ext W w' :=
  law_storeTorn a c s hs W hT
end Go.Proofs.YtimbikbbbfpeeaaGreatDoor
