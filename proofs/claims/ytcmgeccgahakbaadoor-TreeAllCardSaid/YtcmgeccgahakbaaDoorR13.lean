/- tree.Sums of any list of partitions. -/
import Derived.Test.YtcmgeccgahakbaaDoorR12
import Derived.Test.YtcmgeccgahakbaaDoorR10
import Derived.Test.YtcmgeccgahakbaaDoorR4
set_option linter.unusedSimpArgs false
set_option linter.unusedVariables false
namespace Go.Proofs.YtcmgeccgahakbaaDoor
open Go Go.RowKit
attribute [local go_sem] yields yUpon

set_option maxRecDepth 100000 in
set_option maxHeartbeats 16000000 in
theorem sums_yes (n c : Nat) (t : Int) (hc : confB n c t = true) (v : Value) (L : List Pa) (x y : Int) (w : World) (hin : PartsIn w v L) (hlen : L.length ≤ 1000000) (hkey : ∀ p ∈ L, p.key.size ≤ maxLen) (hlow : ∀ p ∈ L, ∀ q ∈ p.ps, ∀ d ∈ q.1.cols, d.name.size ≤ 1000000) (hT : TabU w) :
    Calls Tryd.prog 40 #[.agg #[.int .i64 (n : Int), .int .i64 (c : Int), .int .i64 t], v, .int .i64 x, .int .i64 y] w fun e w' => ∃ b, (e = .returned (.slice (some ⟨b, 0, none⟩) 16 16) ∧ Ext w w') ∧ BoxAt w' b (sumsA n c x y L) 150 := by
  have b0 := BoxAt.made w #[.int .i64 (n : Int), .int .i64 (c : Int), .int .i64 t] 67
  have hE0 := (Ext.refl w).alloc (.cells #[.int .i64 (n : Int), .int .i64 (c : Int), .int .i64 t] 67)
  have x0 : (w.alloc (.cells #[.int .i64 (n : Int), .int .i64 (c : Int), .int .i64 t] 67)).cell? ⟨w.heap.size, 0, none⟩ = some (.int .i64 (n : Int)) := b0.cell 0
  have x1 : (w.alloc (.cells #[.int .i64 (n : Int), .int .i64 (c : Int), .int .i64 t] 67)).cell? ⟨w.heap.size, 1, none⟩ = some (.int .i64 (c : Int)) := b0.cell 1
  have x2 : (w.alloc (.cells #[.int .i64 (n : Int), .int .i64 (c : Int), .int .i64 t] 67)).cell? ⟨w.heap.size, 2, none⟩ = some (.int .i64 t) := b0.cell 2
  have HC := Lib.hid hc
  have HI := Lib.hid hin
  obtain ⟨a, cc, rfl, hcc, hccm, hcell⟩ := hin.get
  have HL := Lib.hid hcell
  have HK := Lib.hid hkey
  have HLo := Lib.hid hlow
  have HT := Lib.hid hT
  clear hin hc hcell hkey hlow hT
  obtain ⟨m, hm⟩ : ∃ m, m = L.length := ⟨_, rfl⟩
  have HM := Lib.hid hm
  rw [← hm] at hcc hlen HI ⊢
  clear hm
  go_enter Tryd.func40, Tryd.ntmps40
  go_wp2_with (go_at_call 100; go_must (refine (rgcheck_any n c t _).mono ?_); rintro e w1 ⟨rfl, hE1⟩; rw [HC.out])
  go_loopw [19] (fun i wr => ∃ k : Nat, k ≤ 16 ∧ i = .int .i64 k ∧ BoxAt wr w1.heap.size (onesA k) 150 ∧ Ext w1 wr) (fun i _ => 16 - (intOf i).toNat)
  case atStart => exact ⟨0, Nat.zero_le _, rfl, BoxAt.made w1 _ _, (Ext.refl w1).alloc _⟩
  case round =>
    obtain ⟨k, hk, rfl, hbox, hE⟩ := hrel
    by_cases hlt : k < 16
    · have HA := Lib.hid (onesA_at hlt)
      have HS := Lib.hid (onesA_set hlt)
      go_wp2_with (go_at_call 101; go_must (refine (tof_any ⟨#[]⟩ (by decide) _).mono ?_); rintro e w2 ⟨rfl, hE2⟩; rw [show (tok 1 (⟨#[]⟩ : ByteArray).data.toList : Int) = 1 from rfl]; have hbox2 := hbox.ext hE2; have cc := hbox2.cell k; have ff := hbox2.free k; rw [HA.out] at cc)
      go_roundw
      case rel => exact ⟨k + 1, by omega, by go_num, by rw [← HS.out]; exact hbox2.set k _, (hE.trans hE2).setCell (Nat.le_refl _) _⟩
      case measure => simp [intOf]; omega
    · obtain rfl : k = 16 := by omega
      have hE01 := hE0.trans hE1
      replace b0 := b0.ext hE1
      clear x0 x1 x2 hE0 hE1
      go_wp2
      obtain ⟨wo, hwo⟩ : ∃ w', w' = wr := ⟨_, rfl⟩
      rw [show (((16 : Nat)) : Int) = 16 from rfl]
      go_loopw [28] (fun i wr => ∃ k : Nat, k ≤ m ∧ i = .int .i64 k ∧ BoxAt wr w1.heap.size (sumsA n c x y (L.take k)) 150 ∧ Ext w1 wr) (fun i _ => m - (intOf i).toNat)
      case atStart => exact ⟨0, Nat.zero_le _, rfl, by rw [List.take_zero, sumsA_nil]; exact hbox, hE⟩
      case round =>
        clear hbox hE hwo
        obtain ⟨k, hk, rfl, hbox, hE⟩ := hrel
        by_cases hkm : k < m
        · have hkl : k < L.length := by rw [← HM.out]; exact hkm
          obtain ⟨b, o, rfl, hpa⟩ := HL.out k hkl
          replace hpa := hpa.ext (hE01.trans hE)
          obtain ⟨p, hp⟩ : ∃ p, p = L[k] := ⟨_, rfl⟩
          have hmem : p ∈ L := by rw [hp]; exact List.getElem_mem hkl
          have HTK : Hid (L.take (k + 1) = L.take k ++ [p]) := Lib.hid (by rw [List.take_succ_eq_append_getElem hkl, hp])
          rw [← hp] at hpa
          clear hp
          have hr := (HI.out.rows p hmem).ext (hE01.trans hE)
          have hks := HK.out p hmem
          have hlo := Lib.hid (HLo.out p hmem)
          obtain ⟨pk, pg, pu, ps⟩ := p
          obtain ⟨p0, p1, p2⟩ := hpa
          replace hr : RowsIn wr pu ps := hr
          replace hks : pk.size ≤ maxLen := hks
          replace p0 : wr.cell? ⟨b, o + k * 3, none⟩ = some (.string pk) := p0
          replace p1 : wr.cell? ⟨b, o + k * 3 + 1, none⟩ = some (.int .i64 pg) := p1
          replace p2 : wr.cell? ⟨b, o + k * 3 + 2, none⟩ = some pu := p2
          have HR := Lib.hid hr
          obtain ⟨au, cu, rfl, _⟩ := hr.get
          clear hr
          obtain ⟨B, hB⟩ : ∃ B, B = (ownN n c (place1 pk) x && ownN n c (place1 pk) y) := ⟨_, rfl⟩
          have HBB := Lib.hid hB
          clear hB
          go_wp2_with (first
            | (((guard_target =~ wpList _ _ _ (Oper.mk none (Op.store _ (Operand.tmp 12) (Operand.tmp 31)) _ _ _ _ :: _) _ _); go_must (refine storeBox rfl 24 (.tmp 12) (.tmp 31) rfl (wr.heap.size) _ _ _ (by rfl) (by rfl) ((BoxAt.made wr #[.string ⟨#[]⟩, .int .i64 0, .slice none 0 0] 24)) (by kernel_rfl) (by rfl) (by simp [Value.oneCell']) ?_); intro w2 d2 g2); have hE2 : Ext wr w2 := (((Ext.refl wr).alloc _).grown g2 (fun q hq => by cases hq; exact Nat.le_refl _)); have q0 : w2.cell? ⟨wr.heap.size, 0, none⟩ = some (.string pk) := d2.cell 0; have z2 := b0.ext (hE.trans hE2); have x0 : w2.cell? ⟨w.heap.size, 0, none⟩ = some (.int .i64 (n : Int)) := z2.cell 0; have x1 : w2.cell? ⟨w.heap.size, 1, none⟩ = some (.int .i64 (c : Int)) := z2.cell 1; have x2 : w2.cell? ⟨w.heap.size, 2, none⟩ = some (.int .i64 t) := z2.cell 2)
            | (go_at_call 97; go_must (refine (both_yes n c t HC.out pk hks x y _).mono ?_); rintro e w3 ⟨rfl, hE3⟩; rw [← HBB.out]; have hX3 := hE2.trans hE3; have d3 := d2.ext hE3; have q0 : w3.cell? ⟨wr.heap.size, 0, none⟩ = some (.string pk) := d3.cell 0; have q1 : w3.cell? ⟨wr.heap.size, 1, none⟩ = some (.int .i64 pg) := d3.cell 1; have q2 : w3.cell? ⟨wr.heap.size, 2, none⟩ = some (.slice au ps.length cu) := d3.cell 2; cases B)
            | (go_at_call 12; go_must (refine (pk_part pk pg _ ps _ (HR.out.ext hX3) hlo.out (HT.out.ext (hE01.trans (hE.trans hX3)))).mono ?_); rintro e w4 ⟨v4, rfl, ho4, hE4⟩; have hX4 := hX3.trans hE4; have q0 : w4.cell? ⟨wr.heap.size, 0, none⟩ = some (.string pk) := (d3.ext hE4).cell 0)
            | (go_at_call 96; go_must (refine (rgbucket_any pk hks _).mono ?_); rintro e w5 ⟨rfl, hE5⟩; have hX5 := hX4.trans hE5; have ho5 := ho4.bytes.ext hE5))
          · go_roundw
            case rel => exact ⟨k + 1, hkm, by go_num, by rw [HTK.out, sumsA_skip (by exact HBB.out.symm)]; exact hbox.ext hX3, hE.trans hX3⟩
            case measure => simp [intOf]; omega
          · have hbl := bucket1_lt pk
            have hS := sumAt_lt n c x y (L.take k) (bucket1 pk)
            have hbox5 := hbox.ext hX5
            have zz := hbox5.cell (bucket1 pk)
            rw [sumsA_at _ _ _ _ _ hbl] at zz
            have hset := sumsA_set (n := n) (c := c) (x := x) (y := y) (L := L.take k) (p := ⟨pk, pg, .slice au ps.length cu, ps⟩) (by exact HBB.out.symm)
            rw [← HTK.out] at hset
            obtain ⟨l, hl⟩ : ∃ l, l = (partR pk pg (ps.map (·.1))).1 := ⟨_, rfl⟩
            rw [show bodyP ⟨pk, pg, .slice au ps.length cu, ps⟩ = l from hl.symm] at hset
            replace hset : (sumsA n c x y (L.take k)).setIfInBounds (bucket1 pk) (.int .i64 (tok (sumAt n c x y (L.take k) (bucket1 pk)) l : Int)) = sumsA n c x y (L.take (k + 1)) := hset
            rw [← hl] at ho5
            clear hl
            obtain ⟨S, hSd⟩ : ∃ S, S = sumAt n c x y (L.take k) (bucket1 pk) := ⟨_, rfl⟩
            rw [← hSd] at zz hset hS
            obtain ⟨bk, hbk⟩ : ∃ bk, bk = bucket1 pk := ⟨_, rfl⟩
            rw [← hbk] at zz hset hbl ⊢
            have HSET := Lib.hid hset
            have hll : (str l).size ≤ maxLen := by
              obtain ⟨_, _, _, h1, h2, _⟩ := ho5
              rw [str_size]
              omega
            clear hSd hbk hset
            have z5 := held zz
            refine wp_region_tab 7 [(5, fun v _ => v = .string (str l)), (6, fun v _ => v = .int .i64 (tok S l : Int))] (by kernel_rfl) (by kernel_rfl) (by kernel_rfl) ⟨stays_eq _, stays_eq _, trivial⟩ ?_
            refine rg_quiet rfl rfl rfl rfl ?_; intro K hK; go_big_quiet_op; go_big_quiet_on
            refine rg_quiet rfl rfl rfl rfl ?_; intro K hK; go_big_quiet_op; go_big_quiet_on
            refine rg_quiet rfl rfl rfl rfl ?_; intro K hK; go_big_quiet_op; go_big_quiet_on
            refine rg_quiet rfl rfl rfl rfl ?_; intro K hK; go_big_quiet_op; go_big_quiet_on
            refine rg_quiet rfl rfl rfl rfl ?_; intro K hK; go_big_quiet_op; go_big_quiet_on
            refine rg_text [] 33 9 5 (.tmp 50) l rfl rfl rfl rfl (by kernel_rfl) (by kernel_rfl) (by kernel_rfl) (by kernel_rfl) (fun w1 hE hf => (ho5.ext hE)) ?_
            simp only [Act.put, List.setIfInBounds_toArray, List.set_cons_zero, List.set_cons_succ]
            refine rg_val [] rfl rfl rfl (by kernel_rfl) (fun w1 hE hf => ?_) ?_
            · go_simp
              exact (tmore_any S hS (str l) hll _).mono fun e w' ⟨he, hw⟩ => ⟨_, he, rg_done hE hw (rfl)⟩
            simp only [Act.put, List.setIfInBounds_toArray, List.set_cons_zero, List.set_cons_succ]
            refine rel_tail rfl rfl fun w6 hE6 _ => ?_
            clear z5
            have hbox6 := hbox5.ext hE6
            have zz6 := hE6.cell zz
            have zf := hbox6.free bk
            clear zz
            go_wp2
            go_roundw
            case rel => exact ⟨k + 1, hkm, by go_num, by rw [← HSET.out]; exact hbox6.set bk _, ((hE.trans hX5).trans hE6).setCell (Nat.le_refl _) _⟩
            case measure => simp [intOf]; omega
        · obtain rfl : k = m := by omega
          rw [HM.out, List.take_length] at hbox
          go_wp2
          go_ret
          exact ⟨_, ⟨rfl, hE01.trans hE⟩, hbox⟩
end Go.Proofs.YtcmgeccgahakbaaDoor

/- The walk over the reference 02: Int, by itself. -/

namespace Go.Proofs.YtcmgeccgahakbaaDoor
open Go Go.RowKit
attribute [local go_sem] yields yUpon

theorem nat_xor_top (V : Nat) (h : V < 18446744073709551616) : V ^^^ 9223372036854775808 = (V + 9223372036854775808) % 18446744073709551616 := by
  apply Nat.eq_of_testBit_eq
  intro i
  have e1 : (9223372036854775808 : Nat) = 2 ^ 63 := by decide
  have e2 : (18446744073709551616 : Nat) = 2 ^ 64 := by decide
  rw [e1, e2, Nat.testBit_xor, Nat.testBit_mod_two_pow, Nat.testBit_two_pow]
  rcases Nat.lt_trichotomy i 63 with hi | hi | hi
  · rw [Nat.add_comm, Nat.testBit_two_pow_add_gt hi]
    have : ¬ 63 = i := by omega
    have h' : i < 64 := by omega
    simp [this, h']
  · subst hi
    rw [Nat.add_comm, Nat.testBit_two_pow_add_eq]
    simp
  · have h1 : V.testBit i = false := Nat.testBit_lt_two_pow (Nat.lt_of_lt_of_le (by rw [← e2]; exact h) (Nat.pow_le_pow_right (by decide) (by omega : 64 ≤ i)))
    have h2 : ¬ 63 = i := by omega
    have h3 : ¬ i < 64 := by omega
    simp [h1, h2, h3]

theorem bits_xor_top (V : Nat) (h : V < 18446744073709551616) : bits .xor .u64 (V : Int) 9223372036854775808 = (((V + 9223372036854775808) % 18446744073709551616 : Nat) : Int) := by
  have e : bits .xor .u64 (V : Int) ((9223372036854775808 : Nat) : Int) = ((V ^^^ 9223372036854775808 : Nat) : Int) := by
    simp only [bits, BitVec.ofInt_natCast, BitVec.toNat_xor, BitVec.toNat_ofNat]
    have hp : (2 : Nat) ^ IntKind.u64.bits = 18446744073709551616 := by decide
    rw [hp, Nat.mod_eq_of_lt h, Nat.mod_eq_of_lt (by decide), IntKind.wrap_u64, nat_xor_top V h]
    omega
  rw [nat_xor_top V h] at e
  exact e
theorem str_app (l m : List UInt8) : str l ++ str m = str (l ++ m) := by
  apply ByteArray.ext
  simp [str]
theorem ret_str {x y : ByteArray} (h : x = y) : Ending.returned (.string x) = .returned (.string y) := by rw [h]

theorem byte_in (w : World) (X : Int) (h0 : 0 ≤ X) (h1 : X < 256) : BytesIn (w.alloc (.cells #[.int .u8 X] 5)) (.slice (some ⟨w.heap.size, 0, none⟩) 1 1) [UInt8.ofNat X.toNat] := by
  unfold BytesIn
  rw [← cs1 h0 h1]
  exact SliceIn.made w _ _ 1 (by unfold maxLen; omega)

set_option maxRecDepth 100000 in
set_option maxHeartbeats 1000000 in
theorem rint_any (v : Int) (w : World) :
    Calls Tryd.prog 130 #[.int .i64 v] w fun e w' => e = .returned (.string (str (int8 v))) ∧ Ext w w' := by
  obtain ⟨U, hU⟩ : ∃ U, U = ((v + 9223372036854775808) % 18446744073709551616).toNat := ⟨_, rfl⟩
  have hx : bits .xor .u64 (IntKind.u64.wrap v) 9223372036854775808 = (U : Int) := by
    have h1 : IntKind.u64.wrap v = ((v % 18446744073709551616).toNat : Int) := by rw [IntKind.wrap_u64]; omega
    rw [h1, bits_xor_top _ (by omega), hU]
    omega
  have HU := Lib.hid hU
  clear hU
  go_enter Tryd.func130, Tryd.ntmps130
  go_wp2
  go_loopw [4, 5] (fun t n wr => ∃ (k : Nat), k ≤ 8 ∧ n = .int .i64 k ∧ t = .string (str (beB k U)) ∧ Ext w wr) (fun _ n _ => 8 - (intOf n).toNat)
  case atStart => exact ⟨0, by omega, rfl, rfl, Ext.refl w⟩
  case round =>
    obtain ⟨k, hk, rfl, rfl, hE⟩ := hrel
    have q1 : ¬ 9223372036854775807 < 1 + (beB k U).length := by rw [beB_length]; omega
    by_cases hlt : k < 8
    · go_wp2
      have hX0 : (0 : Int) ≤ (U : Int) / 2 ^ (8 * k) % 256 := Int.emod_nonneg _ (by decide)
      have hX1 : (U : Int) / 2 ^ (8 * k) % 256 < 256 := Int.emod_lt_of_pos _ (by decide)
      rw [run_convert_bytesIn _ 33 9 5 und_bytes und_u8 und_string (byte_in wr _ hX0 hX1)]
      simp only [Result.andThen]
      rw [Oper.upon_value]
      have hcat : Hid (str [UInt8.ofNat ((U : Int) / 2 ^ (8 * k) % 256).toNat] ++ str (beB k U) = str (beB (k + 1) U)) := by
        rw [str_app, byte_shift]
        rfl
      go_wp2
      go_roundw
      case rel => exact ⟨k + 1, by omega, by go_num, by rw [← hcat.out], hE.alloc _⟩
      case measure => simp [intOf] <;> omega
    · have hk8 : k = 8 := by omega
      go_wp2
      go_ret
      refine ⟨?_, hE⟩
      refine ret_str ?_
      unfold int8
      rw [← HU.out, hk8]

end Go.Proofs.YtcmgeccgahakbaaDoor

/- The walk over the reference 02: Num. -/
namespace Go.Proofs.YtcmgeccgahakbaaDoor
open Go Go.RowKit
attribute [local go_sem] yields yUpon

theorem nlen_of {x k : Nat} (h1 : x / 256 ^ k = 0) (h2 : k = 0 ∨ 0 < x / 256 ^ (k - 1)) : k = nlen x := by
  have hp : ∀ j : Nat, (256 : Nat) ^ j = 2 ^ (8 * j) := fun j => by rw [Nat.pow_mul]
  have hx : x < 2 ^ (8 * k) := by
    rw [← hp]
    rcases Nat.div_eq_zero_iff.1 h1 with h | h
    · exact absurd h (Nat.pos_iff_ne_zero.1 (Nat.pow_pos (by decide)))
    · exact h
  have hb := bitsOf_lt x
  unfold nlen
  by_cases h0 : x = 0
  · subst h0
    rcases h2 with rfl | h2
    · rfl
    · simp at h2
  · have hl := bitsOf_le x h0
    have a1 : bitsOf x - 1 < 8 * k := (Nat.pow_lt_pow_iff_right (by decide : 1 < 2)).1 (Nat.lt_of_le_of_lt hl hx)
    rcases h2 with rfl | h2
    · simp at hx; omega
    · have a2 : 2 ^ (8 * (k - 1)) ≤ x := by
        rw [← hp]
        rcases Nat.lt_or_ge x (256 ^ (k - 1)) with h | h
        · rw [Nat.div_eq_of_lt h] at h2; omega
        · exact h
      have a3 : 8 * (k - 1) < bitsOf x := (Nat.pow_lt_pow_iff_right (by decide : 1 < 2)).1 (Nat.lt_of_le_of_lt a2 hb)
      omega

theorem ofNat_mod (n : Nat) : UInt8.ofNat (n % 256) = UInt8.ofNat n := by
  apply UInt8.toNat_inj.1
  simp
set_option maxRecDepth 100000 in
set_option maxHeartbeats 1000000 in
theorem rnum_any (x : Nat) (hx : x < 18446744073709551616) (w : World) :
    Calls Tryd.prog 114 #[.int .u64 x] w fun e w' => e = .returned (.string (str (num x))) ∧ Ext w w' := by
  have h8 : nlen x ≤ 8 := by have := bitsOf_le64 hx; unfold nlen; omega
  go_enter Tryd.func114, Tryd.ntmps114
  go_wp2
  go_loopw [0, 3] (fun v t wr => ∃ (k V : Nat), V = x / 256 ^ k ∧ v = .int .u64 V ∧ t = .string (str (beB k x)) ∧ Hid (k = 0 ∨ 0 < x / 256 ^ (k - 1)) ∧ k ≤ 8 ∧ Ext w wr) (fun v _ _ => (intOf v).toNat)
  case atStart => exact ⟨0, x, by simp, rfl, rfl, .inl rfl, by omega, Ext.refl w⟩
  case round =>
    obtain ⟨k, V, hV, rfl, rfl, hp, hk, hE⟩ := hrel
    have HV := Lib.hid hV
    have hVx : V < 18446744073709551616 := by rw [hV]; exact Nat.lt_of_le_of_lt (Nat.div_le_self _ _) hx
    have q1 : ¬ 9223372036854775807 < 1 + (beB k x).length := by rw [beB_length]; omega
    have q2 := beB_length k x
    clear hV
    by_cases h0 : 0 < V
    · have d0 : decide ((0 : Int) < (V : Int)) = true := by simpa using h0
      have hX0 : (0 : Int) ≤ (V : Int) % 256 := by omega
      have hX1 : (V : Int) % 256 < 256 := by omega
      have hk7 : k < 8 := by
        rcases Nat.lt_or_ge k 8 with h | h
        · exact h
        · obtain rfl : k = 8 := by omega
          rw [HV.out, Nat.div_eq_of_lt hx] at h0
          omega
      have hcat : Hid (str [UInt8.ofNat ((V : Int) % 256).toNat] ++ str (beB k x) = str (beB (k + 1) x)) := by
        rw [str_app, show ((V : Int) % 256).toNat = V % 256 by omega, ofNat_mod, HV.out]
        rfl
      have hV2 : Hid (V / 256 = x / 256 ^ (k + 1)) := Lib.hid (by rw [HV.out, Nat.div_div_eq_div_mul, Nat.pow_succ])
      go_wp2
      rw [run_convert_bytesIn _ 33 9 5 und_bytes und_u8 und_string (byte_in wr _ hX0 hX1)]
      simp only [Result.andThen]
      rw [Oper.upon_value]
      go_wp2
      go_roundw
      case rel => exact ⟨k + 1, V / 256, hV2.out, by go_num, by rw [← hcat.out, show ((V : Int) % 256).toNat = V % 256 by omega], .inr (by rw [Nat.add_sub_cancel, ← HV.out]; exact h0), by omega, hE.alloc _⟩
      case measure => simp [intOf] <;> omega
    · have d0 : decide ((0 : Int) < (V : Int)) = false := by simpa using h0
      have hkn : Hid (k = nlen x) := nlen_of (by rw [← HV.out]; omega) hp.out
      have q3 : ¬ 9223372036854775807 < 1 + k := by omega
      go_wp2
      rw [run_convert_bytesIn _ 33 9 5 und_bytes und_u8 und_string (byte_in wr _ (by omega) (by omega))]
      simp only [Result.andThen]
      rw [Oper.upon_value]
      go_wp2
      go_ret
      refine ⟨ret_str ?_, hE.alloc _⟩
      rw [str_app]
      unfold num
      rw [← hkn.out]
      rfl
end Go.Proofs.YtcmgeccgahakbaaDoor

/- The reference of chapter 9: Num, Text, cell. -/
namespace Go.Proofs.YtcmgeccgahakbaaDoor
open Go Go.RowKit
attribute [local go_sem] yields yUpon

theorem str_dat (s : ByteArray) : str s.data.toList = s := rfl
theorem str_txt (l : List UInt8) (s : ByteArray) : str l ++ s = str (l ++ s.data.toList) := by
  conv => lhs; rw [← str_dat s]
  exact str_app _ _
set_option maxHeartbeats 400000 in
theorem r9_num (X : Int) (h0 : 0 ≤ X) (h1 : X ≤ 9223372036854775807) (w : World) :
    Calls Tryd.prog 62 #[.int .i64 X] w fun e w' => e = .returned (.string (str (num X.toNat))) ∧ Ext w w' := by
  have hX : X = ((X.toNat : Nat) : Int) := by omega
  have hlt : X.toNat < 18446744073709551616 := by omega
  obtain ⟨x, hx⟩ : ∃ x, x = X.toNat := ⟨_, rfl⟩
  rw [← hx] at hX hlt ⊢
  clear hx
  subst hX
  have hw : IntKind.u64.wrap (x : Int) = (x : Int) := by rw [IntKind.wrap_u64]; omega
  go_enter Tryd.func62, Tryd.ntmps62
  go_wp2_with (go_at_call 114; go_must (refine (rnum_any x hlt _).mono ?_); rintro e w1 ⟨rfl, hE1⟩)
  go_ret
  exact ⟨rfl, hE1⟩
/-- A text's bytes. -/
def txT (s : ByteArray) : ByteArray := str (num s.size ++ s.data.toList)
theorem txT_size (s : ByteArray) (hs : s.size ≤ 1000000000) : (txT s).size ≤ s.size + 9 := by
  have := num_length (x := s.size) (by omega)
  unfold txT
  rw [str_size, List.length_append, dat_size]
  omega
set_option maxHeartbeats 400000 in
theorem r9_text (s : ByteArray) (hs : s.size ≤ 1000000000) (w : World) :
    Calls Tryd.prog 63 #[.string s] w fun e w' => e = .returned (.string (txT s)) ∧ Ext w w' := by
  obtain ⟨M, hM⟩ : ∃ M, M = str (num s.size) := ⟨_, rfl⟩
  have hMl : M.size ≤ 9 := by rw [hM, str_size]; exact num_length (by omega)
  have q1 : ¬ 9223372036854775807 < M.size + s.size := by omega
  have HM := Lib.hid hM
  clear hM
  go_enter Tryd.func63, Tryd.ntmps63
  go_wp2_with (go_at_call 62; go_must (refine (r9_num (s.size : Int) (by omega) (by omega) _).mono ?_); rintro e w1 ⟨rfl, hE1⟩; rw [show str (num (s.size : Int).toNat) = M from by rw [HM.out]; rfl])
  go_ret
  exact ⟨ret_str (by rw [HM.out, str_txt]; rfl), hE1⟩

set_option maxRecDepth 100000 in
set_option maxHeartbeats 4000000 in
theorem r9_cell (c : Cl) (hc : OkC c) (w : World) :
    Calls Tryd.prog 112 #[.agg (cl4 c)] w fun e w' => e = .returned (.string (str (cellP c))) ∧ Ext w w' := by
  have hE0 := (Ext.refl w).alloc (.cells (cl4 c) 88)
  have hbx := BoxAt.made w (cl4 c) 88
  obtain ⟨val, dead, at_, fin⟩ := c
  obtain ⟨h0, h1, h2, h3, h4⟩ := hc
  simp only at h0 h1 h2 h3 h4
  unfold cl4 at *
  simp only at hbx hE0 ⊢
  have x0 : (w.alloc (.cells #[.string val, .bool dead, .int .i64 at_, .int .i64 fin] 88)).cell? ⟨w.heap.size, 0, none⟩ = some (.string val) := hbx.cell 0
  have x1 : (w.alloc (.cells #[.string val, .bool dead, .int .i64 at_, .int .i64 fin] 88)).cell? ⟨w.heap.size, 1, none⟩ = some (.bool dead) := hbx.cell 1
  have x2 : (w.alloc (.cells #[.string val, .bool dead, .int .i64 at_, .int .i64 fin] 88)).cell? ⟨w.heap.size, 2, none⟩ = some (.int .i64 at_) := hbx.cell 2
  have x3 : (w.alloc (.cells #[.string val, .bool dead, .int .i64 at_, .int .i64 fin] 88)).cell? ⟨w.heap.size, 3, none⟩ = some (.int .i64 fin) := hbx.cell 3
  obtain ⟨A, hA⟩ : ∃ A, A = str (num at_.toNat) := ⟨_, rfl⟩
  obtain ⟨V, hV⟩ : ∃ V, V = txT val := ⟨_, rfl⟩
  obtain ⟨F, hF⟩ : ∃ F, F = str (num fin.toNat) := ⟨_, rfl⟩
  have zA : A.size ≤ 9 := by rw [hA, str_size]; exact num_length (by omega)
  have zF : F.size ≤ 9 := by rw [hF, str_size]; exact num_length (by omega)
  have zV : V.size ≤ 1009 := by rw [hV]; have := txT_size val (by omega); omega
  have q1 : ¬ 9223372036854775807 < A.size + 1 := by omega
  have q2 : ¬ 9223372036854775807 < A.size + 1 + V.size := by omega
  have q3 : ¬ 9223372036854775807 < A.size + 1 + V.size + F.size := by omega
  have HA := Lib.hid hA
  have HV := Lib.hid hV
  have HF := Lib.hid hF
  clear hA hV hF zA zF zV
  by_cases e0 : at_ = 0
  · subst e0
    go_enter Tryd.func112, Tryd.ntmps112
    go_wp2_with (go_at_call 62; go_must (refine (r9_num 0 (by omega) (by omega) _).mono ?_); rintro e w1 ⟨rfl, hE1⟩)
    go_ret
    exact ⟨ret_str (by unfold cellP; rw [if_pos rfl, List.append_nil]; rfl), hE0.trans hE1⟩
  · by_cases ed : dead = true
    · subst ed
      go_enter Tryd.func112, Tryd.ntmps112
      go_wp2_with (go_at_call 62; go_must (refine (r9_num at_ (by omega) (by omega) _).mono ?_); rintro e w1 ⟨rfl, hE1⟩; rw [← HA.out])
      go_ret
      exact ⟨ret_str (by rw [HA.out]; unfold cellP; rw [if_neg e0, if_pos rfl]; exact str_app _ [1]), hE0.trans hE1⟩
    · obtain rfl : dead = false := by simpa using ed
      go_enter Tryd.func112, Tryd.ntmps112
      go_wp2
      refine wp_region_tab 12 [(2, fun v _ => v = .string A), (6, fun v _ => v = .string V), (10, fun v _ => v = .string F)] (by kernel_rfl) (by kernel_rfl) (by kernel_rfl) ⟨stays_eq _, stays_eq _, stays_eq _, trivial⟩ ?_
      replace x0 := held x0
      replace x2 := held x2
      replace x3 := held x3
      refine rg_quiet rfl rfl rfl rfl ?_; intro K hK; go_big_quiet_op; go_big_quiet_on
      refine rg_quiet rfl rfl rfl rfl ?_; intro K hK; go_big_quiet_op; go_big_quiet_on
      refine rg_val [] rfl rfl rfl (by kernel_rfl) (fun w1 hE hf => ?_) ?_
      · go_simp
        exact ((HA.out ▸ r9_num at_ (by omega) (by omega) _)).mono fun e w' ⟨he, hw⟩ => ⟨_, he, rg_done hE hw (rfl)⟩
      simp only [Act.put, List.setIfInBounds_toArray, List.set_cons_zero, List.set_cons_succ]
      refine rg_quiet rfl rfl rfl rfl ?_; intro K hK; go_big_quiet_op; go_big_quiet_on
      refine rg_quiet rfl rfl rfl rfl ?_; intro K hK; go_big_quiet_op; go_big_quiet_on
      refine rg_quiet rfl rfl rfl rfl ?_; intro K hK; go_big_quiet_op; go_big_quiet_on
      refine rg_val [] rfl rfl rfl (by kernel_rfl) (fun w1 hE hf => ?_) ?_
      · go_simp
        exact ((HV.out ▸ r9_text val (by omega) _)).mono fun e w' ⟨he, hw⟩ => ⟨_, he, rg_done hE hw (rfl)⟩
      simp only [Act.put, List.setIfInBounds_toArray, List.set_cons_zero, List.set_cons_succ]
      refine rg_quiet rfl rfl rfl rfl ?_; intro K hK; go_big_quiet_op; go_big_quiet_on
      refine rg_quiet rfl rfl rfl rfl ?_; intro K hK; go_big_quiet_op; go_big_quiet_on
      refine rg_quiet rfl rfl rfl rfl ?_; intro K hK; go_big_quiet_op; go_big_quiet_on
      refine rg_val [] rfl rfl rfl (by kernel_rfl) (fun w1 hE hf => ?_) ?_
      · go_simp
        exact ((HF.out ▸ r9_num fin (by omega) (by omega) _)).mono fun e w' ⟨he, hw⟩ => ⟨_, he, rg_done hE hw (rfl)⟩
      simp only [Act.put, List.setIfInBounds_toArray, List.set_cons_zero, List.set_cons_succ]
      refine rg_quiet rfl rfl rfl rfl ?_; intro K hK; go_big_quiet_op; go_big_quiet_on
      refine rel_tail rfl rfl fun w2 hE2 _ => ?_
      go_wp2
      go_ret
      refine ⟨ret_str ?_, hE0.trans hE2⟩
      rw [HA.out, HV.out, HF.out]
      unfold cellP txT
      rw [if_neg e0, if_neg (by simp)]
      have e1 : (⟨#[0]⟩ : ByteArray) = str [0] := rfl
      rw [e1, str_app, str_app, str_app]
      simp only [List.append_assoc]
end Go.Proofs.YtcmgeccgahakbaaDoor
