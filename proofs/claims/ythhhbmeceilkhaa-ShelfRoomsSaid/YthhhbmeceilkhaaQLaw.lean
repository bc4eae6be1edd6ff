/- ShelfRooms: so many bytes of a log, so many files, and one too many: the law's walk. -/
import Derived.Test.YthhhbmeceilkhaaQ4
set_option linter.unusedSimpArgs false
set_option linter.unusedVariables false
namespace Go.Proofs.Ythhhbmeceilkhaa
open Go Go.RowKit
attribute [local go_sem] yields yUpon

/-- Files 1 to k. -/
def FR (k : Nat) : Fl := (List.range k).map fun (j : Nat) => ((j : Int) + 1, [120])
theorem FR_len (k : Nat) : (FR k).length = k := by simp [FR]
theorem FR_has (k : Nat) (x : Int) : fhas x (FR k) = decide (1 ≤ x ∧ x ≤ k) := by
  rw [Bool.eq_iff_iff]
  simp only [fhas, FR, List.any_map, List.any_eq_true, List.mem_range, Function.comp_def, beq_iff_eq, decide_eq_true_eq]
  constructor
  · rintro ⟨j, hj, rfl⟩; omega
  · rintro ⟨h1, h2⟩; exact ⟨(x - 1).toNat, by omega, by omega⟩
theorem fput_last {n : Int} {b : List UInt8} : ∀ {F : Fl}, (∀ q ∈ F, q.1 < n) → fput n b F = F ++ [(n, b)]
  | [], _ => rfl
  | p :: l, h => by
    rw [fput, if_pos (h p (by simp)), fput_last fun q hq => h q (by simp [hq])]; rfl
theorem FR_put (k : Nat) : fput ((k : Int) + 1) [120] (FR k) = FR (k + 1) := by
  rw [fput_last]
  · simp [FR, List.range_succ]
  · intro q hq
    simp only [FR, List.mem_map, List.mem_range] at hq
    obtain ⟨j, hj, rfl⟩ := hq
    show (j : Int) + 1 < k + 1
    omega
theorem FR_keys (k : Nat) : (keysF (FR k)).length = k := by simp [keysF, FR]
theorem putE_big {n : Int} {b : ByteArray} {F : Fl} (h0 : 1 ≤ n) (h1 : n ≤ 1099511627776) (h2 : fhas n F = false) (h4 : 40 ≤ F.length) : putE n b F = 2 := by
  unfold putE
  rw [if_neg, if_pos (.inr h4)]
  rw [h2]; simp; omega
theorem putE_fits {n : Int} {b : ByteArray} {F : Fl} (h0 : 1 ≤ n) (h1 : n ≤ 1099511627776) (h2 : fhas n F = false) (h3 : b.size ≤ 262144) (h4 : F.length < 40) : putE n b F = 0 := by
  unfold putE
  rw [if_neg, if_neg]
  · omega
  · rw [h2]; simp; omega
theorem putE_is {n : Int} {b : ByteArray} {F : Fl} (h2 : fhas n F = true) : putE n b F = 1 := by
  unfold putE
  rw [if_pos (.inr (.inr h2))]

theorem ow_append_c {W w : World} {p m : Nat} {log : ByteArray} {good : Nat} {F : Fl} {man : ByteArray} (b : ByteArray) (hm : b.size ≤ maxLen) (c : Int) (hc : c = if log.size + b.size ≤ 262144 then 0 else 2) (h : Own5 W w p m log good F man) :
    Calls Try.prog 12 #[.pointer (some ⟨p, 0, none⟩), .string b] w fun e w' => e = .returned (.int .i64 c) ∧ ∃ log', Own5 W w' p m log' good F man := by
  subst hc
  exact (sh_append b hm w h.at_).mono fun e w' ⟨⟨he, ht⟩, hs⟩ => ⟨he, _, h.step ht (by simpa using h.hp) hs h.hp h.hm⟩

set_option maxRecDepth 100000 in
set_option maxHeartbeats 8000000 in
theorem law_shelfRooms (a0 a1 a2 : Int) (w : World) :
    Calls Try.prog 3 #[.int .i64 a0, .int .i64 a1, .int .i64 a2] w fun e w' => e = .returned (.bool true) ∧ Ext w w' := by
  obtain ⟨k, hk⟩ : ∃ k : Nat, (k : Int) = a0 % 5 := ⟨(a0 % 5).toNat, by omega⟩
  have kh : k < 5 := by omega
  obtain ⟨m, hm⟩ : ∃ m : Nat, (m : Int) = a1 % 3 := ⟨(a1 % 3).toNat, by omega⟩
  have mh : m < 3 := by omega
  obtain ⟨f, hf⟩ : ∃ f : Nat, (f : Int) = a2 % 44 := ⟨(a2 % 44).toNat, by omega⟩
  have fh : f < 44 := by omega
  have Hk := Lib.hid hk.symm
  have Hm := Lib.hid hm.symm
  have Hf := Lib.hid hf.symm
  clear hk hm hf
  obtain ⟨N, hN⟩ : ∃ N : Nat, N = 131072 := ⟨_, rfl⟩
  have N1 : (N : Int) ≤ 131072 := by omega
  have N2 : 131072 ≤ (N : Int) := by omega
  have HN := Lib.hid hN
  clear hN
  obtain ⟨cc, hcc⟩ : ∃ cc : Int, cc = if m ≤ k then 0 else 2 := ⟨_, rfl⟩
  have Hc0 : Hid (cc = if m ≤ k then 0 else 2) := Lib.hid hcc
  by_cases hmk : m ≤ k
  all_goals
    first | rw [if_pos hmk] at hcc | rw [if_neg hmk] at hcc
    have Hc := Lib.hid hcc
    clear hcc
    go_enter Try.func3, Try.ntmps3
    go_wp2_with fail
    refine (ow_new w).mono ?_
    rintro e w1 ⟨rfl, h⟩
    go_wp2_with fail
    refine (place_any _ _ (by omega) (by omega) _).mono ?_
    rintro e w2 ⟨rfl, rfl⟩
    rw [Hk.out]
    go_wp2_with fail
    refine (place_any _ _ (by omega) (by omega) _).mono ?_
    rintro e w2 ⟨rfl, rfl⟩
    rw [Hm.out]
    obtain ⟨w2, hmz, hcv, hE2⟩ := run_zero_text w1 N (by omega)
    have eN : (N : Int) = 131072 := by omega
    rw [eN] at hmz
    have h2 := h.more hE2
    clear eN h
    have hNs : (str (List.replicate N 0)).size = N := by simp
    obtain ⟨Z, hZ⟩ : ∃ Z, Z = str (List.replicate N 0) := ⟨_, rfl⟩
    rw [← hZ] at hcv hNs
    clear hZ
    go_wp2_with fail
    refine (ow_append Z Z (by have e : (⟨#[]⟩ : ByteArray).size = 0 := rfl; rw [e]; omega) (by apply ByteArray.ext; rw [ByteArray.data_append]; simp) h2).mono ?_
    rintro e w3 ⟨rfl, h3⟩
    clear h2 hmz hcv
    go_wp2_with fail
    have hZk : (Z.extract k N).size = N - k := by rw [ByteArray.size_extract, hNs]; omega
    refine (ow_append (Z.extract k N) _ (by rw [hNs, hZk]; omega) rfl h3).mono ?_
    rintro e w4 ⟨rfl, h4⟩
    clear h3
    have hZm : (Z.extract 0 m).size = m := by rw [ByteArray.size_extract, hNs]; omega
    have HS : Hid (cc = if (Z ++ Z.extract k N).size + (Z.extract 0 m).size ≤ 262144 then 0 else 2) := Lib.hid (by
      rw [ByteArray.size_append, hNs, hZk, hZm, Hc0.out]
      have := HN.out
      split <;> split <;> omega)
    clear hZk
    go_wp2_with fail
    refine (ow_append_c (Z.extract 0 m) (by rw [hZm]; unfold maxLen; omega) cc HS.out h4).mono ?_
    rintro e w5 ⟨rfl, LOG, h5⟩
    clear h4 HS hZm hNs Hc0
    obtain rfl := Hc.out
    clear Hc
    go_wp2_with fail
    refine (place_any _ _ (by omega) (by omega) _).mono ?_
    rintro e w6 ⟨rfl, rfl⟩
    rw [Hf.out]
    go_wp2
    go_loopw [13] (fun i wr => ∃ j : Nat, j ≤ f ∧ i = .int .i64 ((j : Int) + 1) ∧ Own5 w wr (w.heap.size + 1) w.heap.size LOG 0 (FR (min j 40)) ⟨#[]⟩) (fun i _ => f + 1 - (intOf i).toNat)
    case atStart => exact ⟨0, Nat.zero_le _, rfl, h5⟩
    case round =>
      obtain ⟨j, hj, rfl, hs⟩ := hrel
      by_cases hlt : j < f
      · by_cases h40 : j < 40
        · have e1 : min j 40 = j := by omega
          rw [e1] at hs
          have HP : Hid ((if (0 : Int) = 0 then fput ((j : Int) + 1) (⟨#[120]⟩ : ByteArray).data.toList (FR j) else FR j) = FR (min (j + 1) 40)) := Lib.hid (by
            rw [if_pos rfl, show min (j + 1) 40 = j + 1 by omega]; exact FR_put j)
          clear e1
          go_wp2_with fail
          refine (ow_put ((j : Int) + 1) (by omega) (by omega) ⟨#[120]⟩ (by decide) (by rw [FR_len]; omega) 0 _ (putE_fits (by omega) (by omega) (by rw [FR_has]; simp; omega) (by decide) (by rw [FR_len]; omega)) HP.out hs).mono ?_
          rintro e w7 ⟨rfl, h7⟩
          clear HP hs
          have hd : decide ((j : Int) + 1 ≤ 40) = true := by simp; omega
          go_wp2
          go_roundw
          case rel => exact ⟨j + 1, by omega, by go_num, h7⟩
          case measure => simp [intOf]; omega
        · have e1 : min j 40 = 40 := by omega
          rw [e1] at hs
          have e2 : min (j + 1) 40 = 40 := by omega
          have HP := Lib.hid e2
          clear e1 e2
          go_wp2_with fail
          refine (ow_put ((j : Int) + 1) (by omega) (by omega) ⟨#[120]⟩ (by decide) (by rw [FR_len]; omega) 2 (FR 40) (putE_big (by omega) (by omega) (by rw [FR_has]; simp; omega) (by rw [FR_len]; omega)) (by rfl) hs).mono ?_
          rintro e w7 ⟨rfl, h7⟩
          clear hs
          go_wp2
          go_roundw
          case rel => exact ⟨j + 1, by omega, by go_num, by rw [HP.out]; exact h7⟩
          case measure => simp [intOf]; omega
      · obtain rfl : j = f := by omega
        obtain ⟨K, hK⟩ : ∃ K, K = min j 40 := ⟨_, rfl⟩
        rw [← hK] at hs
        have hmin : min (j : Int) 40 = (K : Int) := by omega
        have eK := Lib.hid (FR_keys K)
        by_cases hj0 : j = 0
        · have HK0 : Hid (K = 0) := Lib.hid (by omega)
          have j1 : decide ((0 : Int) < (j : Int)) = false := by simp; omega
          have j2 : decide (0 < j) = false := by simp; omega
          have j4 : (j == 0) = true := by simp; omega
          have j3 : ((j : Int) == 0) = true := by simp; omega
          clear hK hj0 hlt
          go_wp2_with fail
          refine (ow_nums _ rfl (by rw [FR_len]; omega) hs).mono ?_
          rintro e w7 ⟨a7, c7, rfl, _, _, h7⟩
          rw [eK.out]
          clear hs eK
          go_wp2_with fail
          refine (ow_put 1 (by omega) (by omega) ⟨#[121]⟩ (by decide) (by rw [FR_len]; have := HK0.out; omega) 0 _ (putE_fits (by omega) (by omega) (by rw [FR_has]; have := HK0.out; simp; omega) (by decide) (by rw [FR_len]; have := HK0.out; omega)) rfl h7).mono ?_
          rintro e w8 ⟨rfl, h8⟩
          clear h7
          go_wp2_with (go_at_call 15; go_must (refine (awake5_any _).mono ?_); rintro e w9 ⟨rfl, hE9⟩)
          go_ret
          exact ⟨rfl, h8.ext.trans hE9⟩
        · have k1 : 1 ≤ K := by omega
          have k2 : K ≤ 40 := by omega
          have j1 : (0 : Int) < j := by omega
          clear hK hj0
          go_wp2_with fail
          refine (ow_nums _ rfl (by rw [FR_len]; omega) hs).mono ?_
          rintro e w7 ⟨a7, c7, rfl, _, _, h7⟩
          rw [eK.out]
          clear hs eK
          go_wp2_with fail
          refine (ow_put 1 (by omega) (by omega) ⟨#[121]⟩ (by decide) (by rw [FR_len]; omega) 1 _ (putE_is (by rw [FR_has]; simp; omega)) rfl h7).mono ?_
          rintro e w8 ⟨rfl, h8⟩
          clear h7
          have j2 : (j : Int) ≤ 43 := by omega
          have j3 : ((j : Int) == 0) = false := by simp; omega
          clear k1 k2 hlt hj fh N1 N2 hmk kh mh h5
          go_wp2_with (go_at_call 15; go_must (refine (awake5_any _).mono ?_); rintro e w9 ⟨rfl, hE9⟩)
          go_ret
          exact ⟨rfl, h8.ext.trans hE9⟩

theorem walk_shelfRooms (a0 a1 a2 : Int) (_ : (Lit.int .i64 a0).wf = true) (_ : (Lit.int .i64 a1).wf = true) (_ : (Lit.int .i64 a2).wf = true) (w : World) :
    Calls Try.prog 3 #[.int .i64 a0, .int .i64 a1, .int .i64 a2] w fun e w' => e = .returned (.bool true) ∧ Ext w w' := law_shelfRooms a0 a1 a2 w
end Go.Proofs.Ythhhbmeceilkhaa
