/- Package token (and clerestoryref03): places of texts. -/
import Derived.Test.YtcmgeccgahakbaaDoorR4
import Derived.Test.YtcmgeccgahakbaaDoorR2
set_option linter.unusedSimpArgs false
set_option linter.unusedVariables false
namespace Go.Proofs.YtcmgeccgahakbaaDoor
open Go Go.RowKit
attribute [local go_sem] yields yUpon

set_option maxHeartbeats 400000 in
theorem tcut_any (t : Int) (h0 : 0 ≤ t) (h1 : t < 2147483647) (w : World) :
    Calls Tryd.prog 134 #[.int .i64 t] w fun e w' => e = .returned (.int .i64 t) ∧ w = w' := by
  have h2 : max 0 (min t 2147483646) = t := by omega
  have H2 := Lib.hid h2
  clear h2
  go_enter Tryd.func134, Tryd.ntmps134
  go_wp2
  all_goals
    go_ret
    first | exact ⟨ret_int H2.out, rfl⟩ | exact ⟨ret_int (by omega), rfl⟩

set_option maxHeartbeats 400000 in
theorem tround_any (p : Nat) (t b : Int) (e : TypeId) (h0 : 0 ≤ t) (h1 : t < 2147483647) (b0 : 0 ≤ b) (b1 : b < 256) (w : World) (hb : BoxAt w p #[.int .i64 t] e) :
    Calls Tryd.prog 135 #[.int .u8 b, .pointer (some ⟨p, 0, none⟩)] w fun e w' => e = .returned (.tuple #[]) ∧ w' = w.setCell ⟨p, 0, none⟩ (.int .i64 ((257 * t + b + 1) % 2147483647)) := by
  have c0 := hb.cell 0
  have f0 := hb.free 0
  simp at c0
  go_enter Tryd.func135, Tryd.ntmps135
  go_wp2
  go_end0
  exact ⟨rfl, rfl⟩

theorem tok_step (t : Nat) (l : List UInt8) (k : Nat) (h : k < l.length) : (257 * (tok t (l.take k) : Int) + ((l[k]).toNat : Int) + 1) % 2147483647 = (tok t (l.take (k + 1)) : Int) := by
  rw [List.take_succ_eq_append_getElem h, tok_snoc]
  omega

set_option maxHeartbeats 1000000 in
theorem tmore_any (t : Nat) (ht : t < 2147483647) (s : ByteArray) (hs : s.size ≤ maxLen) (w : World) :
    Calls Tryd.prog 102 #[.int .i64 (t : Int), .string s] w fun e w' => e = .returned (.int .i64 (tok t s.data.toList : Int)) ∧ Ext w w' := by
  unfold maxLen at hs
  have E1 := (Ext.refl w).alloc (.cells #[.int .i64 (t : Int)] 3)
  have hb := BoxAt.made w #[.int .i64 (t : Int)] 3
  have c0 := hb.cell 0
  have f0 := hb.free 0
  simp at c0
  go_enter Tryd.func102, Tryd.ntmps102
  go_wp2_with (go_at_call 134; go_must (refine (tcut_any _ (by omega) (by omega) _).mono ?_); rintro e w1 ⟨rfl, rfl⟩)
  go_loopw [6, 12] (fun _ i wr => ∃ k : Nat, k ≤ s.size ∧ i = .int .i64 k ∧ BoxAt wr w.heap.size #[.int .i64 (tok t (s.data.toList.take k) : Int)] 3 ∧ Ext w wr) (fun _ i _ => s.size - (intOf i).toNat)
  case atStart => exact ⟨0, Nat.zero_le _, rfl, hb, E1⟩
  case round =>
    obtain ⟨k, hk, rfl, hbox, hE⟩ := hrel
    have hlt := tok_lt (s.data.toList.take k) t ht
    by_cases hks : k < s.size
    · have hst : (257 * (tok t (s.data.toList.take k) : Int) + (s[k].toNat : Int) + 1) % 2147483647 = (tok t (s.data.toList.take (k + 1)) : Int) := tok_step t s.data.toList k hks
      have hb2 := hbox.set 0 (.int .i64 ((257 * (tok t (s.data.toList.take k) : Int) + (s[k].toNat : Int) + 1) % 2147483647))
      have HS := Lib.hid hst
      have hbyte := s[k].toNat_lt
      clear hst c0 f0
      go_wp2_with fail
      refine (tround_any w.heap.size _ _ 3 (by omega) (by omega) (by omega) (by omega) _ hbox).mono ?_
      rintro e w2 ⟨rfl, rfl⟩
      go_wp2
      go_roundw
      case rel => exact ⟨k + 1, by omega, by go_num, by rw [← HS.out]; exact hb2, hE.setCell (Nat.le_refl _) _⟩
      case measure => simp [intOf]; omega
    · obtain rfl : k = s.size := by omega
      have e : s.data.toList.take s.size = s.data.toList := List.take_of_length_le (Nat.le_of_eq rfl)
      rw [e] at hbox
      have c1 := hbox.cell 0
      simp at c1
      clear c0 f0
      go_wp2
      go_ret
      exact ⟨rfl, hE⟩

theorem tof_any (s : ByteArray) (hs : s.size ≤ maxLen) (w : World) :
    Calls Tryd.prog 101 #[.string s] w fun e w' => e = .returned (.int .i64 (tok 1 s.data.toList : Int)) ∧ Ext w w' := by
  go_enter Tryd.func101, Tryd.ntmps101
  go_wp2_with fail
  refine (tmore_any 1 (by decide) s hs _).mono ?_
  rintro e w1 ⟨rfl, hE⟩
  go_wp2
  go_ret
  exact ⟨rfl, hE⟩

set_option maxHeartbeats 400000 in
theorem rcut_any (t : Int) (h0 : 0 ≤ t) (h1 : t < 2147483647) (w : World) :
    Calls Tryd.prog 159 #[.int .i64 t] w fun e w' => e = .returned (.int .i64 t) ∧ w = w' := by
  have h2 : min (max t 0) 2147483646 = t := by omega
  have H2 := Lib.hid h2
  clear h2
  go_enter Tryd.func159, Tryd.ntmps159
  go_wp2
  all_goals
    go_ret
    first | exact ⟨ret_int H2.out, rfl⟩ | exact ⟨ret_int (by omega), rfl⟩

set_option maxHeartbeats 1000000 in
theorem rmore_any (t : Nat) (ht : t < 2147483647) (s : ByteArray) (hs : s.size ≤ maxLen) (w : World) :
    Calls Tryd.prog 136 #[.int .i64 (t : Int), .string s] w fun e w' => e = .returned (.int .i64 (tok t s.data.toList : Int)) ∧ w = w' := by
  unfold maxLen at hs
  go_enter Tryd.func136, Tryd.ntmps136
  go_wp2_with (go_at_call 159; go_must (refine (rcut_any _ (by omega) (by omega) _).mono ?_); rintro e w1 ⟨rfl, rfl⟩)
  go_loop [5, 6] (fun h i => ∃ k : Nat, k ≤ s.size ∧ i = .int .i64 k ∧ h = .int .i64 (tok t (s.data.toList.take k) : Int)) (fun _ i => s.size - (intOf i).toNat)
  case atStart => exact ⟨0, Nat.zero_le _, rfl, rfl⟩
  case round =>
    obtain ⟨k, hk, rfl, rfl⟩ := hrel
    have hlt := tok_lt (s.data.toList.take k) t ht
    by_cases hks : k < s.size
    · have hst : (257 * (tok t (s.data.toList.take k) : Int) + (s[k].toNat : Int) + 1) % 2147483647 = (tok t (s.data.toList.take (k + 1)) : Int) := tok_step t s.data.toList k hks
      have HS := Lib.hid hst
      have hbyte := s[k].toNat_lt
      clear hst
      go_wp2
      go_round
      case rel => exact ⟨k + 1, by omega, by go_num, by rw [← HS.out]⟩
      case measure => simp [intOf]; omega
    · obtain rfl : k = s.size := by omega
      have e : s.data.toList.take s.size = s.data.toList := List.take_of_length_le (Nat.le_of_eq rfl)
      have HE := Lib.hid e
      clear e
      go_wp2
      go_ret
      exact ⟨ret_int (by rw [HE.out]), rfl⟩

theorem rof_any (s : ByteArray) (hs : s.size ≤ maxLen) (w : World) :
    Calls Tryd.prog 104 #[.string s] w fun e w' => e = .returned (.int .i64 (tok 1 s.data.toList : Int)) ∧ w = w' := by
  go_enter Tryd.func104, Tryd.ntmps104
  go_wp2_with fail
  refine (rmore_any 1 (by decide) s hs _).mono ?_
  rintro e w1 ⟨rfl, rfl⟩
  go_wp2
  go_ret
  exact ⟨rfl, rfl⟩

end Go.Proofs.YtcmgeccgahakbaaDoor

/- The Tree laws' awake: tree.Sums without partitions, tree.Texts of one number. -/
namespace Go.Proofs.YtcmgeccgahakbaaDoor
open Go Go.RowKit
attribute [local go_sem] yields yUpon

/-- ring.Check. -/
def confB (n c t : Int) : Bool := decide (1 ≤ n) && decide (n ≤ 5) && decide (1 ≤ c) && decide (c ≤ n) && decide (1 ≤ t) && decide (t ≤ 100)

set_option maxHeartbeats 2000000 in
theorem rgcheck_any (n c t : Int) (w : World) :
    Calls Tryd.prog 100 #[.agg #[.int .i64 n, .int .i64 c, .int .i64 t]] w fun e w' => e = .returned (.bool (confB n c t)) ∧ Ext w w' := by
  have hb := BoxAt.made w #[.int .i64 n, .int .i64 c, .int .i64 t] 67
  have c0 := hb.cell 0
  have c1 := hb.cell 1
  have c2 := hb.cell 2
  simp at c0 c1 c2
  have hE := (Ext.refl w).alloc (.cells #[.int .i64 n, .int .i64 c, .int .i64 t] 67)
  have HR : Hid (∀ q : Bool, q = confB n c t → ∀ y, Ext w y → (Ending.returned (.bool q) = .returned (.bool (confB n c t)) ∧ Ext w y)) := Lib.hid fun q h y hy => ⟨by rw [h], hy⟩
  go_enter Tryd.func100, Tryd.ntmps100
  go_wp2
  all_goals
    go_ret
    exact HR.out _ (by rw [Bool.eq_iff_iff]; simp [confB]; omega) _ hE

/-- The array of tree.Sums when k of its places have been set. -/
def onesA (k : Nat) : Array Value := (List.replicate k (Value.int .i64 1) ++ List.replicate (16 - k) (Value.int .i64 0)).toArray
theorem onesA_set {k : Nat} (h : k < 16) : (onesA k).setIfInBounds k (.int .i64 1) = onesA (k + 1) := by
  unfold onesA
  apply Array.ext'
  simp
  rw [show 16 - k = (16 - (k + 1)) + 1 by omega, List.replicate_succ, List.replicate_succ']
  simp
theorem onesA_at {k : Nat} (h : k < 16) : (onesA k)[k]? = some (.int .i64 0) := by
  unfold onesA
  rw [List.getElem?_toArray, List.getElem?_append_right (by simp)]
  rw [List.length_replicate, Nat.sub_self, List.getElem?_replicate, if_pos (by omega)]
theorem onesA_full {k : Nat} (h : k < 16) : (onesA 16)[k]? = some (.int .i64 1) := by
  unfold onesA
  rw [List.getElem?_toArray, List.getElem?_append_left (by simpa using h)]
  rw [List.getElem?_replicate, if_pos h]

set_option maxHeartbeats 4000000 in
theorem sums_none (w : World) :
    Calls Tryd.prog 40 #[.agg #[.int .i64 1, .int .i64 1, .int .i64 1], .slice none 0 0, .int .i64 0, .int .i64 0] w fun e w' => ∃ b, (e = .returned (.slice (some ⟨b, 0, none⟩) 16 16) ∧ Ext w w') ∧ BoxAt w' b (onesA 16) 150 := by
  have hb := BoxAt.made w #[.int .i64 1, .int .i64 1, .int .i64 1] 67
  have hE0 := (Ext.refl w).alloc (.cells #[.int .i64 1, .int .i64 1, .int .i64 1] 67)
  have c0 : (w.alloc (.cells #[.int .i64 1, .int .i64 1, .int .i64 1] 67)).cell? ⟨w.heap.size, 0, none⟩ = some (.int .i64 1) := hb.cell 0
  have c1 : (w.alloc (.cells #[.int .i64 1, .int .i64 1, .int .i64 1] 67)).cell? ⟨w.heap.size, 1, none⟩ = some (.int .i64 1) := hb.cell 1
  have c2 : (w.alloc (.cells #[.int .i64 1, .int .i64 1, .int .i64 1] 67)).cell? ⟨w.heap.size, 2, none⟩ = some (.int .i64 1) := hb.cell 2
  go_enter Tryd.func40, Tryd.ntmps40
  go_wp2_with (go_at_call 100; go_must (refine (rgcheck_any 1 1 1 _).mono ?_); rintro e w1 ⟨rfl, hE1⟩; rw [show confB 1 1 1 = true from rfl])
  go_loopw [19] (fun i wr => ∃ k : Nat, k ≤ 16 ∧ i = .int .i64 k ∧ BoxAt wr w1.heap.size (onesA k) 150 ∧ Ext w1 wr) (fun i _ => 16 - (intOf i).toNat)
  case atStart => exact ⟨0, Nat.zero_le _, rfl, BoxAt.made w1 _ _, (Ext.refl w1).alloc _⟩
  case round =>
    obtain ⟨k, hk, rfl, hbox, hE⟩ := hrel
    by_cases hlt : k < 16
    · have HA := Lib.hid (onesA_at hlt)
      have HS := Lib.hid (onesA_set hlt)
      go_wp2_with (go_at_call 101; go_must (refine (tof_any ⟨#[]⟩ (by decide) _).mono ?_); rintro e w2 ⟨rfl, hE2⟩; rw [show (tok 1 (⟨#[]⟩ : ByteArray).data.toList : Int) = 1 from rfl]; have hbox2 := hbox.ext hE2; have cc := hbox2.cell k; have ff := hbox2.free k; rw [HA.out] at cc)
      go_roundw
      case rel => exact ⟨k + 1, by omega, by go_num, by rw [← HS.out]; exact hbox2.set k _, (hE.trans hE2).setCell (Nat.le_refl _) _⟩
      case measure => simp [intOf]; omega
    · obtain rfl : k = 16 := by omega
      go_wp2
      go_loop [28] (fun i => i = .int .i64 0) (fun _ => 0)
      case atStart => rfl
      case round =>
        subst hrel
        go_wp2
        go_ret
        exact ⟨_, ⟨rfl, (hE0.trans hE1).trans hE⟩, hbox⟩

theorem stx_12 : stx 12 = ⟨#[49, 50]⟩ := by
  have h : Lib.itoa (max 12 0) = [49, 50] := by
    unfold Lib.itoa
    rw [if_neg (by omega), show (max (12 : Int) 0).toNat = 12 by omega, Lib.decDigits_two (by omega) (by omega)]
    rfl
  unfold stx
  rw [h]

theorem ints_one (w : World) (x : Int) (e : TypeId) : IntsIn (w.alloc (.cells #[.int .i64 x] e)) (.slice (some ⟨w.heap.size, 0, none⟩) 1 1) .i64 [x] := by
  refine ⟨some ⟨w.heap.size, 0, none⟩, 1, rfl, by simp, by decide, nofun, fun j u hj => ⟨w.heap.size, 0, rfl, ?_⟩⟩
  rw [Nat.zero_add, (BoxAt.made w #[.int .i64 x] e).cell j]
  simpa [kcells] using hj

set_option maxHeartbeats 4000000 in
theorem awake23_any (w : World) (hT : TabX w) : Calls Tryd.prog 35 #[] w fun e w' => e = .returned (.bool true) ∧ Ext w w' := by
  have HT := Lib.hid hT
  clear hT
  go_enter Tryd.func35, Tryd.ntmps35
  go_wp2_with (first
    | (go_at_call 40; go_must (refine (sums_none _).mono ?_); rintro e w1 ⟨b1, ⟨rfl, hE1⟩, hb1⟩)
    | (go_at_call 43; go_must (refine (texts_any _ [12] _ (ints_one w1 12 3) (by simp) (by simp) (pow10_ext HT.out (hE1.alloc _))).mono ?_); rintro e w2 ⟨v2, ⟨rfl, hE2⟩, ho2⟩; have h2 : TsIn w2 v2 [⟨#[49, 50]⟩] := (by have h := SliceIn.of_owns ho2; rw [show stxs [12] = [⟨#[49, 50]⟩] from (by simp [stxs, stx_12])] at h; exact h); obtain ⟨a2, c2, rfl, hc2, hcm2, hcell2⟩ := h2.get; obtain ⟨g2, o2, rfl, x0⟩ := hcell2 0 (by simp); have hE12 := ((Ext.refl w1).alloc _).trans hE2; have hb2 := hb1.ext hE12; have y0 := hb2.cell 0; rw [onesA_full (by omega)] at y0; have y15 := hb2.cell 15; rw [onesA_full (by omega)] at y15; replace x0 : w2.cell? ⟨g2, o2, none⟩ = some (.string ⟨#[49, 50]⟩) := x0))
  go_ret
  exact ⟨rfl, hE1.trans hE12⟩
end Go.Proofs.YtcmgeccgahakbaaDoor

/- Package ring: Token, Bucket, round. -/
namespace Go.Proofs.YtcmgeccgahakbaaDoor
open Go Go.RowKit
attribute [local go_sem] yields yUpon

/-- A key's place on the ring. -/
def place1 (key : ByteArray) : Nat := tok 1 key.data.toList
theorem place1_lt (key : ByteArray) : place1 key < 2147483647 := tok_lt _ 1 (by decide)
theorem rgtok_any (key : ByteArray) (hs : key.size ≤ maxLen) (w : World) :
    Calls Tryd.prog 132 #[.string key] w fun e w' => e = .returned (.int .i64 (place1 key : Int)) ∧ Ext w w' := by
  go_enter Tryd.func132, Tryd.ntmps132
  go_wp2_with (go_at_call 101; go_must (refine (tof_any key hs _).mono ?_); rintro e w1 ⟨rfl, hE⟩)
  go_ret
  exact ⟨rfl, hE⟩
def bucket1 (key : ByteArray) : Nat := place1 key / 2 ^ 27
theorem bucket1_lt (key : ByteArray) : bucket1 key < 16 := by have := place1_lt key; unfold bucket1; omega
theorem rgbucket_any (key : ByteArray) (hs : key.size ≤ maxLen) (w : World) :
    Calls Tryd.prog 96 #[.string key] w fun e w' => e = .returned (.int .i64 (bucket1 key : Int)) ∧ Ext w w' := by
  have hlt := place1_lt key
  go_enter Tryd.func96, Tryd.ntmps96
  go_wp2_with (go_at_call 132; go_must (refine (rgtok_any key hs _).mono ?_); rintro e w1 ⟨rfl, hE⟩)
  go_ret
  exact ⟨ret_int (by unfold bucket1; omega), hE⟩

/-- The owners' array when k of them have been set. -/
def ringA (n s k : Nat) : Array Value := ((List.range 5).map fun i => Value.int .i64 (if i < k then (((s % n + i) % n : Nat) : Int) else 0)).toArray
theorem ringA_size (n s k : Nat) : (ringA n s k).size = 5 := by simp [ringA]
theorem ringA_at (n s k : Nat) {i : Nat} (h : i < 5) : (ringA n s k)[i]? = some (.int .i64 (if i < k then (((s % n + i) % n : Nat) : Int) else 0)) := by
  simp [ringA, h]
theorem ringA_zero (n s : Nat) : ringA n s 0 = #[.int .i64 0, .int .i64 0, .int .i64 0, .int .i64 0, .int .i64 0] := by
  simp [ringA, List.range_succ]
theorem ringA_set (n s : Nat) {k : Nat} (h : k < 5) : (ringA n s k).setIfInBounds k (.int .i64 (((s % n + k) % n : Nat) : Int)) = ringA n s (k + 1) := by
  apply Array.ext_getElem?
  intro i
  by_cases hi : i < 5
  · by_cases hik : k = i
    · subst hik
      rw [Array.getElem?_setIfInBounds_self_of_lt (by rw [ringA_size]; exact h), ringA_at _ _ _ h, if_pos (by omega)]
    · rw [Array.getElem?_setIfInBounds_ne hik, ringA_at _ _ _ hi, ringA_at _ _ _ hi]
      by_cases h1 : i < k
      · rw [if_pos h1, if_pos (by omega)]
      · rw [if_neg h1, if_neg (by omega)]
  · rw [Array.getElem?_eq_none (by simp [ringA_size]; omega), Array.getElem?_eq_none (by rw [ringA_size]; omega)]

set_option maxHeartbeats 8000000 in
theorem round_yes (n c : Nat) (t : Int) (hc : confB n c t = true) (key : ByteArray) (hs : key.size ≤ maxLen) (w : World) :
    Calls Tryd.prog 167 #[.agg #[.int .i64 (n : Int), .int .i64 (c : Int), .int .i64 t], .string key] w fun e w' => e = .returned (.tuple #[.agg (ringA n (place1 key) c), .int .i64 (c : Int)]) ∧ Ext w w' := by
  have hc' := hc
  simp [confB] at hc'
  have h2 := boxes2 w #[.int .i64 (n : Int), .int .i64 (c : Int), .int .i64 t] #[.int .i64 0, .int .i64 0, .int .i64 0, .int .i64 0, .int .i64 0] 67 208
  have HC := Lib.hid hc
  have hlt := place1_lt key
  obtain ⟨s, hsk⟩ : ∃ s, s = place1 key := ⟨_, rfl⟩
  have HSK := Lib.hid hsk
  rw [← hsk] at hlt ⊢
  have hn0 : ((n : Int) == 0) = false := by simp; omega
  have hr1 : Int.tmod (s : Int) (n : Int) = ((s % n : Nat) : Int) := by rw [Int.tmod_eq_emod_of_nonneg (by omega), Int.natCast_emod]
  have hsn : s % n < n := Nat.mod_lt _ (by omega)
  obtain ⟨f, hf⟩ : ∃ f, f = s % n := ⟨_, rfl⟩
  have HF := Lib.hid hf
  rw [← hf] at hr1 hsn
  clear hsk hf hc
  go_enter Tryd.func167, Tryd.ntmps167
  go_wp2_with (go_at_call 100; go_must (refine (rgcheck_any n c t _).mono ?_); rintro e w1 ⟨rfl, hE1⟩; rw [HC.out])
  have b1 := h2.1.ext hE1
  have b2 := h2.2.1.ext hE1
  have hE := h2.2.2.trans hE1
  clear h2 hE1
  have x0 := held (show w1.cell? ⟨w.heap.size, 0, none⟩ = some (.int .i64 (n : Int)) from b1.cell 0)
  refine wp_region_tab 5 [(1, fun v _ => v = .int .i64 (s : Int))] (by kernel_rfl) (by kernel_rfl) (by kernel_rfl) ⟨stays_eq _, trivial⟩ ?_
  refine rg_quiet rfl rfl rfl rfl ?_; intro K hK; go_big_quiet_op; go_big_quiet_on
  refine rg_val [] rfl rfl rfl (by kernel_rfl) (fun w1 hE hf => ?_) ?_
  · go_simp
    exact ((HSK.out ▸ rgtok_any key hs _)).mono fun e w' ⟨he, hw⟩ => ⟨_, he, rg_done hE hw (rfl)⟩
  simp only [Act.put, List.setIfInBounds_toArray, List.set_cons_zero, List.set_cons_succ]
  refine rg_quiet rfl rfl rfl rfl ?_; intro K hK; go_big_quiet_op; go_big_quiet_on
  refine rg_quiet rfl rfl rfl rfl ?_; intro K hK; go_big_quiet_op; go_big_quiet_on
  refine rg_quiet rfl rfl rfl rfl ?_; intro K hK; go_big_quiet_op; go_big_quiet_on
  clear x0
  refine rel_tail rfl rfl fun w2 hE2 _ => ?_
  replace b1 := b1.ext hE2
  replace b2 := b2.ext hE2
  replace hE := hE.trans hE2
  clear hE2
  have y1 : w2.cell? ⟨w.heap.size, 1, none⟩ = some (.int .i64 (c : Int)) := b1.cell 1
  go_wp2
  obtain ⟨E, hEd⟩ : ∃ E : Array Value, E = #[.int .i64 (n : Int), .int .i64 (c : Int), .int .i64 t] := ⟨_, rfl⟩
  go_loopw [19] (fun i wr => ∃ k : Nat, k ≤ c ∧ i = .int .i64 k ∧ BoxAt wr w.heap.size #[.int .i64 (n : Int), .int .i64 (c : Int), .int .i64 t] 67 ∧ BoxAt wr (w.heap.size + 1) (ringA n s k) 208 ∧ Ext w wr) (fun i _ => c - (intOf i).toNat)
  case atStart => exact ⟨0, Nat.zero_le _, rfl, b1, by rw [ringA_zero]; exact b2, hE⟩
  case round =>
    clear b1 b2 hE y1
    obtain ⟨k, hk, rfl, b1, b2, hE⟩ := hrel
    by_cases hkc : k < c
    · have y0 : wr.cell? ⟨w.heap.size, 0, none⟩ = some (.int .i64 (n : Int)) := b1.cell 0
      have hr2 : Int.tmod ((f : Int) + (k : Int)) (n : Int) = (((f + k) % n : Nat) : Int) := by rw [Int.tmod_eq_emod_of_nonneg (by omega), Int.natCast_emod, Int.natCast_add]
      have z := b2.cell k
      rw [ringA_at _ _ _ (by omega)] at z
      have zf := b2.free k
      have b2' := b2.set k (.int .i64 (((f + k) % n : Nat) : Int))
      rw [HF.out, ringA_set n s (by omega), ← HF.out] at b2'
      have b1' := b1.other (q := w.heap.size + 1) (by omega) k (.int .i64 (((f + k) % n : Nat) : Int))
      have hE' := hE.setCell (p := ⟨w.heap.size + 1, k, none⟩) (Nat.le_succ _) (.int .i64 (((f + k) % n : Nat) : Int))
      have hk5 : k < 5 := by omega
      clear b1 b2
      go_wp2
      go_roundw
      case rel => exact ⟨k + 1, by omega, by go_num, b1', b2', hE'⟩
      case measure => simp [intOf]; omega
    · obtain rfl : k = c := by omega
      obtain ⟨x0, x1, x2, x3, x4, hx⟩ : ∃ x0 x1 x2 x3 x4 : Int, ringA n s k = #[.int .i64 x0, .int .i64 x1, .int .i64 x2, .int .i64 x3, .int .i64 x4] := ⟨_, _, _, _, _, rfl⟩
      rw [hx] at b2
      have HX := Lib.hid hx
      have z0 : wr.cell? ⟨w.heap.size + 1, 0, none⟩ = some (.int .i64 x0) := b2.cell 0
      have z1 : wr.cell? ⟨w.heap.size + 1, 1, none⟩ = some (.int .i64 x1) := b2.cell 1
      have z2 : wr.cell? ⟨w.heap.size + 1, 2, none⟩ = some (.int .i64 x2) := b2.cell 2
      have z3 : wr.cell? ⟨w.heap.size + 1, 3, none⟩ = some (.int .i64 x3) := b2.cell 3
      have z4 : wr.cell? ⟨w.heap.size + 1, 4, none⟩ = some (.int .i64 x4) := b2.cell 4
      have zf := b2.free
      have y1 : wr.cell? ⟨w.heap.size, 1, none⟩ = some (.int .i64 (k : Int)) := b1.cell 1
      clear hx hEd
      go_wp2
      go_region
      go_wp2
      have b5 := ((((b2.set 0 (.int .i64 x0)).set 1 (.int .i64 x1)).set 2 (.int .i64 x2)).set 3 (.int .i64 x3)).set 4 (.int .i64 x4)
      have hE5 := (((((hE.setCell (p := ⟨w.heap.size + 1, 0, none⟩) (Nat.le_succ _) (.int .i64 x0)).setCell (p := ⟨w.heap.size + 1, 1, none⟩) (Nat.le_succ _) (.int .i64 x1)).setCell (p := ⟨w.heap.size + 1, 2, none⟩) (Nat.le_succ _) (.int .i64 x2)).setCell (p := ⟨w.heap.size + 1, 3, none⟩) (Nat.le_succ _) (.int .i64 x3)).setCell (p := ⟨w.heap.size + 1, 4, none⟩) (Nat.le_succ _) (.int .i64 x4)).drew
      replace b5 := b5.ext ((Ext.refl _).drew)
      generalize World.drew _ = wz at b5 hE5 ⊢
      have z0 : wz.cell? ⟨w.heap.size + 1, 0, none⟩ = some (.int .i64 x0) := b5.cell 0
      have z1 : wz.cell? ⟨w.heap.size + 1, 1, none⟩ = some (.int .i64 x1) := b5.cell 1
      have z2 : wz.cell? ⟨w.heap.size + 1, 2, none⟩ = some (.int .i64 x2) := b5.cell 2
      have z3 : wz.cell? ⟨w.heap.size + 1, 3, none⟩ = some (.int .i64 x3) := b5.cell 3
      have z4 : wz.cell? ⟨w.heap.size + 1, 4, none⟩ = some (.int .i64 x4) := b5.cell 4
      refine bodyPost_ret (v := .tuple #[.agg #[.int .i64 x0, .int .i64 x1, .int .i64 x2, .int .i64 x3, .int .i64 x4], .int .i64 (k : Int)]) ?_ rfl ⟨by rw [HX.out], hE5⟩
      simp [results, Tryd.results167, go_sem, z0, z1, z2, z3, z4]
end Go.Proofs.YtcmgeccgahakbaaDoor

/- Package ring: Pair, Owns; tree.both. -/
namespace Go.Proofs.YtcmgeccgahakbaaDoor
open Go Go.RowKit
attribute [local go_sem] yields yUpon

theorem ringA_one (n s k : Nat) : (ringA n s k).all (·.oneCell') = true := by
  rw [Array.all_eq_true]
  intro i hi
  have hi5 : i < 5 := by rw [ringA_size] at hi; exact hi
  have h := ringA_at n s k hi5
  rw [Array.getElem?_eq_getElem hi] at h
  rw [Option.some.inj h]
  rfl
/-- Is node x among the owners of what stands at s? -/
def ownN (n c s : Nat) (x : Int) : Bool := (List.range c).any fun i => (((s % n + i) % n : Nat) : Int) == x
theorem ownN_yes {n c s k : Nat} {x : Int} (hk : k < c) (h : (((s % n + k) % n : Nat) : Int) = x) : ownN n c s x = true := by
  unfold ownN
  rw [List.any_eq_true]
  exact ⟨k, List.mem_range.2 hk, by simpa using h⟩
theorem ownN_no {n c s : Nat} {x : Int} (h : ∀ j, j < c → (((s % n + j) % n : Nat) : Int) ≠ x) : ownN n c s x = false := by
  unfold ownN
  rw [List.any_eq_false]
  intro j hj
  simpa using h j (List.mem_range.1 hj)

set_option maxHeartbeats 8000000 in
theorem pair_yes (n c : Nat) (t : Int) (hc : confB n c t = true) (base view : ByteArray) (hsb : base.size ≤ maxLen) (hsv : view.size ≤ maxLen) (x : Int) (w : World) :
    Calls Tryd.prog 158 #[.agg #[.int .i64 (n : Int), .int .i64 (c : Int), .int .i64 t], .string base, .string view, .int .i64 x] w fun e w' => ∃ v, e = .returned (.tuple #[v, .bool (ownN n c (place1 base) x)]) ∧ Ext w w' := by
  have hc' := hc
  simp [confB] at hc'
  have b0 := BoxAt.made w #[.int .i64 (n : Int), .int .i64 (c : Int), .int .i64 t] 67
  have hE0 := (Ext.refl w).alloc (.cells #[.int .i64 (n : Int), .int .i64 (c : Int), .int .i64 t] 67)
  have x0 : (w.alloc (.cells #[.int .i64 (n : Int), .int .i64 (c : Int), .int .i64 t] 67)).cell? ⟨w.heap.size, 0, none⟩ = some (.int .i64 (n : Int)) := b0.cell 0
  have x1 : (w.alloc (.cells #[.int .i64 (n : Int), .int .i64 (c : Int), .int .i64 t] 67)).cell? ⟨w.heap.size, 1, none⟩ = some (.int .i64 (c : Int)) := b0.cell 1
  have x2 : (w.alloc (.cells #[.int .i64 (n : Int), .int .i64 (c : Int), .int .i64 t] 67)).cell? ⟨w.heap.size, 2, none⟩ = some (.int .i64 t) := b0.cell 2
  have HC := Lib.hid hc
  obtain ⟨s, hsk⟩ : ∃ s, s = place1 base := ⟨_, rfl⟩
  have HSK := Lib.hid hsk
  rw [← hsk]
  obtain ⟨s', hsk'⟩ : ∃ s', s' = place1 view := ⟨_, rfl⟩
  have HSK' := Lib.hid hsk'
  clear hc hsk hsk'
  go_enter Tryd.func158, Tryd.ntmps158
  go_wp2_with (first
    | (go_at_call 167; have q := hX2; go_must (refine (round_yes n c t HC.out view hsv _).mono ?_); rintro e w3 ⟨rfl, hE3⟩; rw [← HSK'.out])
    | (go_at_call 167; go_must (refine (round_yes n c t HC.out base hsb _).mono ?_); rintro e w1 ⟨rfl, hE1⟩; rw [← HSK.out])
    | ((guard_target =~ wpList _ _ _ (Oper.mk none (Op.store _ (Operand.tmp 10) (Operand.tmp 19)) _ _ _ _ :: _) _ _); go_must (refine storeBox rfl 208 (.tmp 10) (.tmp 19) rfl (w1.heap.size) (ringA n s c) _ _ (by rfl) (by rfl) (BoxAt.made w1 _ _) (by rw [ringA_size]; kernel_rfl) (by rw [ringA_size]; rfl) (ringA_one _ _ _) ?_); intro w2 d2 g2; have hX1 := hE0.trans hE1; have hY2 : Ext w1 w2 := ((Ext.refl w1).alloc _).grown g2 (fun q hq => by cases hq; exact Nat.le_refl _); have hX2 := hX1.trans hY2; have b2 := b0.ext (hE1.trans hY2); have x0 : w2.cell? ⟨w.heap.size, 0, none⟩ = some (.int .i64 (n : Int)) := b2.cell 0; have x1 : w2.cell? ⟨w.heap.size, 1, none⟩ = some (.int .i64 (c : Int)) := b2.cell 1; have x2 : w2.cell? ⟨w.heap.size, 2, none⟩ = some (.int .i64 t) := b2.cell 2)
    | ((guard_target =~ wpList _ _ _ (Oper.mk none (Op.store _ (Operand.tmp 12) (Operand.tmp 25)) _ _ _ _ :: _) _ _); go_must (refine storeBox rfl 208 (.tmp 12) (.tmp 25) rfl (w3.heap.size) (ringA n s' c) _ _ (by rfl) (by rfl) (BoxAt.made w3 _ _) (by rw [ringA_size]; kernel_rfl) (by rw [ringA_size]; rfl) (ringA_one _ _ _) ?_); intro w4 d4 g4; have hY4 : Ext w3 w4 := ((Ext.refl w3).alloc _).grown g4 (fun q hq => by cases hq; exact Nat.le_refl _); have hX4 := hX2.trans (hE3.trans hY4); have d2' := d2.ext (hE3.trans hY4)))
  go_loop [28] (fun i => ∃ k : Nat, k ≤ c ∧ i = .int .i64 k ∧ Hid (∀ j, j < k → (((s % n + j) % n : Nat) : Int) ≠ x)) (fun i => c - (intOf i).toNat)
  case atStart => exact ⟨0, Nat.zero_le _, rfl, Lib.hid (fun j hj => absurd hj (Nat.not_lt_zero _))⟩
  case round =>
    obtain ⟨k, hk, rfl, HN⟩ := hrel
    by_cases hkc : k < c
    · have hk5 : k < 5 := by omega
      have z := d2'.cell k
      rw [ringA_at _ _ _ hk5, if_pos hkc] at z
      have z' := d4.cell k
      rw [ringA_at _ _ _ hk5, if_pos hkc] at z'
      obtain ⟨o, ho⟩ : ∃ o, o = (s % n + k) % n := ⟨_, rfl⟩
      have HO := Lib.hid ho
      rw [← ho] at z
      clear ho
      by_cases hox : (o : Int) = x
      · have hR := ownN_yes (s := s) (x := x) (n := n) hkc (by rw [← HO.out]; exact hox)
        have HR := Lib.hid hR
        clear hR
        subst hox
        go_wp2
        go_ret2
        rw [HR.out]
        exact ⟨⟨_, rfl⟩, hX4⟩
      · have HN2 : Hid (∀ j, j < k + 1 → (((s % n + j) % n : Nat) : Int) ≠ x) := Lib.hid (fun j hj => by
          by_cases hjk : j = k
          · exact fun h => hox (by rw [HO.out, ← hjk]; exact h)
          · exact HN.out j (by omega))
        go_wp2
        go_round
        case rel => exact ⟨k + 1, hkc, by go_num, HN2⟩
        case measure => simp [intOf]; omega
    · obtain rfl : k = c := by omega
      have HR := Lib.hid (ownN_no HN.out)
      go_wp2
      go_ret2
      rw [HR.out]
      exact ⟨⟨_, rfl⟩, hX4⟩

theorem owns_yes (n c : Nat) (t : Int) (hc : confB n c t = true) (key : ByteArray) (hs : key.size ≤ maxLen) (x : Int) (w : World) :
    Calls Tryd.prog 133 #[.agg #[.int .i64 (n : Int), .int .i64 (c : Int), .int .i64 t], .string key, .int .i64 x] w fun e w' => e = .returned (.bool (ownN n c (place1 key) x)) ∧ Ext w w' := by
  have b0 := BoxAt.made w #[.int .i64 (n : Int), .int .i64 (c : Int), .int .i64 t] 67
  have x0 : (w.alloc (.cells #[.int .i64 (n : Int), .int .i64 (c : Int), .int .i64 t] 67)).cell? ⟨w.heap.size, 0, none⟩ = some (.int .i64 (n : Int)) := b0.cell 0
  have x1 : (w.alloc (.cells #[.int .i64 (n : Int), .int .i64 (c : Int), .int .i64 t] 67)).cell? ⟨w.heap.size, 1, none⟩ = some (.int .i64 (c : Int)) := b0.cell 1
  have x2 : (w.alloc (.cells #[.int .i64 (n : Int), .int .i64 (c : Int), .int .i64 t] 67)).cell? ⟨w.heap.size, 2, none⟩ = some (.int .i64 t) := b0.cell 2
  have HC := Lib.hid hc
  clear hc
  go_enter Tryd.func133, Tryd.ntmps133
  go_wp2_with (go_at_call 158; go_must (refine (pair_yes n c t HC.out key key hs hs x _).mono ?_); rintro e w1 ⟨v, rfl, hE1⟩)
  go_ret
  exact ⟨rfl, ((Ext.refl w).alloc _).trans hE1⟩
theorem both_yes (n c : Nat) (t : Int) (hc : confB n c t = true) (key : ByteArray) (hs : key.size ≤ maxLen) (x y : Int) (w : World) :
    Calls Tryd.prog 97 #[.agg #[.int .i64 (n : Int), .int .i64 (c : Int), .int .i64 t], .string key, .int .i64 x, .int .i64 y] w fun e w' => e = .returned (.bool (ownN n c (place1 key) x && ownN n c (place1 key) y)) ∧ Ext w w' := by
  have b0 := BoxAt.made w #[.int .i64 (n : Int), .int .i64 (c : Int), .int .i64 t] 67
  have x0 : (w.alloc (.cells #[.int .i64 (n : Int), .int .i64 (c : Int), .int .i64 t] 67)).cell? ⟨w.heap.size, 0, none⟩ = some (.int .i64 (n : Int)) := b0.cell 0
  have x1 : (w.alloc (.cells #[.int .i64 (n : Int), .int .i64 (c : Int), .int .i64 t] 67)).cell? ⟨w.heap.size, 1, none⟩ = some (.int .i64 (c : Int)) := b0.cell 1
  have x2 : (w.alloc (.cells #[.int .i64 (n : Int), .int .i64 (c : Int), .int .i64 t] 67)).cell? ⟨w.heap.size, 2, none⟩ = some (.int .i64 t) := b0.cell 2
  have HC := Lib.hid hc
  obtain ⟨A, hA⟩ : ∃ A, A = ownN n c (place1 key) x := ⟨_, rfl⟩
  obtain ⟨B, hB⟩ : ∃ B, B = ownN n c (place1 key) y := ⟨_, rfl⟩
  have HX := Lib.hid hA
  have HY := Lib.hid hB
  rw [← hA, ← hB]
  clear hc hA hB
  go_enter Tryd.func97, Tryd.ntmps97
  go_wp2_with (first
    | (go_at_call 133; have q := hX1; go_must (refine (owns_yes n c t HC.out key hs y _).mono ?_); rintro e w2 ⟨rfl, hE2⟩; rw [← HY.out]; replace hX1 := hX1.trans hE2)
    | (go_at_call 133; go_must (refine (owns_yes n c t HC.out key hs x _).mono ?_); rintro e w1 ⟨rfl, hE1⟩; rw [← HX.out]; have hX1 := ((Ext.refl w).alloc _).trans hE1; have b1 := b0.ext hE1; have x0 : w1.cell? ⟨w.heap.size, 0, none⟩ = some (.int .i64 (n : Int)) := b1.cell 0; have x1 : w1.cell? ⟨w.heap.size, 1, none⟩ = some (.int .i64 (c : Int)) := b1.cell 1; have x2 : w1.cell? ⟨w.heap.size, 2, none⟩ = some (.int .i64 t) := b1.cell 2; cases A))
  all_goals
    go_ret
    exact ⟨rfl, hX1⟩
end Go.Proofs.YtcmgeccgahakbaaDoor
