/- The reference of chapter 9: CheckMuts, CheckBatch. (what a smaller cut has) -/
import Derived.Test.YtfagnbofnaoncaaGreatDoorP10
import Derived.Test.YtfagnbofnaoncaaGreatDoorP19
import Derived.Test.YtfagnbofnaoncaaGreatDoorP1
import Derived.Test.YtfagnbofnaoncaaGreatDoorP14
set_option linter.unusedSimpArgs false
set_option linter.unusedVariables false
namespace Go.Proofs.YtfagnbofnaoncaaGreatDoor
open Go Go.RowKit
attribute [local go_sem] yields yUpon

set_option maxRecDepth 100000 in
set_option maxHeartbeats 8000000 in
theorem r9_checkmuts (vm : Value) (M : List Mt) (w : World) (hM : MtsIn w vm M) (hMb : ∀ x ∈ M, x.table.size ≤ 1000000 ∧ ∀ p ∈ x.pa.ps, ∀ c ∈ p.1.cols, c.name.size ≤ 1000000) :
    Calls Tryz.prog 52 #[vm, .int .i64 64] w fun e w' => e = .returned (.bool (M.all okMt && decide (M.length ≤ 64))) ∧ Ext w w' := by
  obtain ⟨am, cm, rfl, hcm, hcmm, hgm⟩ := hM.get
  have HGM := Lib.hid hgm
  have HMB := Lib.hid hMb
  have HROW := Lib.hid hM.rows
  clear hgm hMb hM
  obtain ⟨mn, hmn⟩ : ∃ n, n = M.length := ⟨_, rfl⟩
  rw [← hmn] at hcm ⊢
  have HMN := Lib.hid hmn
  clear hmn
  obtain ⟨R, hR⟩ : ∃ R, R = (M.all okMt && decide (mn ≤ 64)) := ⟨_, rfl⟩
  rw [← hR]
  have HR := Lib.hid hR
  clear hR
  go_enter Tryz.func52, Tryz.ntmps52
  go_wp2
  go_loopw [5] (fun i wr => ∃ k : Nat, k ≤ mn ∧ i = .int .i64 (k : Int) ∧ Hid ((M.take k).all okMt = true) ∧ Ext w wr) (fun i _ => mn - (intOf i).toNat)
  case atStart => exact ⟨0, Nat.zero_le _, rfl, Lib.hid rfl, Ext.refl w⟩
  case round =>
    obtain ⟨k, hk, rfl, HP, hE⟩ := hrel
    by_cases hlt : k < mn
    · have hkF : k < M.length := by rw [← HMN.out]; exact hlt
      obtain ⟨b, o, rfl, ⟨g0, g1, g2, g3⟩⟩ := HGM.out k hkF
      obtain ⟨ra, rc, hrv⟩ : ∃ a c, (M[k]).pa.rv = .slice a (M[k]).pa.ps.length c := let ⟨a, c, e, _⟩ := (HROW.out _ (List.getElem_mem hkF)).get; ⟨a, c, e⟩
      have hrw := HROW.out _ (List.getElem_mem hkF)
      rw [hrv] at g3 hrw
      replace g0 := hE.cell g0
      replace g1 := hE.cell g1
      replace g2 := hE.cell g2
      replace g3 := hE.cell g3
      obtain ⟨q1, q2⟩ := HMB.out _ (List.getElem_mem hkF)
      have HP1 : Hid (okMt M[k] = true → (M.take (k + 1)).all okMt = true) := Lib.hid fun h => all_take hkF HP.out h
      have HP0 : Hid (okMt M[k] = false → R = false) := Lib.hid fun h => by rw [HR.out, all_no hkF h]; rfl
      have HOK : Hid (okMt M[k] = (nameB (M[k]).table && ptB (M[k]).pa.key (M[k]).pa.gone ((M[k]).pa.ps.map (·.1)))) := Lib.hid rfl
      obtain ⟨ok, hok⟩ : ∃ ok, ok = okMt M[k] := ⟨_, rfl⟩
      obtain ⟨t, ht⟩ : ∃ t, t = (M[k]).table := ⟨_, rfl⟩
      obtain ⟨ky, hky⟩ : ∃ t, t = (M[k]).pa.key := ⟨_, rfl⟩
      obtain ⟨gn, hgn⟩ : ∃ t, t = (M[k]).pa.gone := ⟨_, rfl⟩
      obtain ⟨ps, hps⟩ : ∃ t, t = (M[k]).pa.ps := ⟨_, rfl⟩
      rw [← hok] at HP1 HP0 HOK
      rw [← ht] at g0 q1 HOK
      rw [← hky] at g1 HOK
      rw [← hgn] at g2 HOK
      rw [← hps] at g3 hrw q2 HOK
      obtain ⟨rn, hrn⟩ : ∃ n, n = ps.length := ⟨_, rfl⟩
      rw [← hrn] at g3 hrw
      have HQ2 := Lib.hid q2
      clear hok ht hky hgn hps hrv hrn q2
      have t1 : decide ((k : Int) < (mn : Int)) = true := by simp; omega
      cases hn : nameB t
      · have HN := Lib.hid hn
        clear hn
        go_wp2_with (go_at_call 100; go_must (refine (rname_any t (by omega) _).mono ?_); rintro e w5 ⟨rfl, hE5⟩; rw [HN.out])
        go_ret
        exact ⟨by rw [HP0.out (by rw [HOK.out, HN.out]; rfl)]; rfl, hE.trans hE5⟩
      · have HN := Lib.hid hn
        clear hn
        cases hg : ptB ky gn (ps.map (·.1))
        all_goals
          have HG := Lib.hid hg
          clear hg
          go_wp2_with (first
            | (go_at_call 100; go_must (refine (rname_any t (by omega) _).mono ?_); rintro e w5 ⟨rfl, hE5⟩; rw [HN.out]; have z1 := hE5.cell g1; have z2 := hE5.cell g2; have z3 := hE5.cell g3)
            | (go_at_call 101; go_must (refine (check8_any ky gn _ ps _ (hrw.ext (hE.trans hE5)) HQ2.out).mono ?_); rintro e w6 ⟨rfl, hE6⟩; rw [HG.out]))
        · go_ret
          exact ⟨by rw [HP0.out (by rw [HOK.out, HN.out, HG.out]; rfl)]; rfl, (hE.trans hE5).trans hE6⟩
        · go_roundw
          case rel => exact ⟨k + 1, by omega, by go_num, Lib.hid (HP1.out (by rw [HOK.out, HN.out, HG.out]; rfl)), (hE.trans hE5).trans hE6⟩
          case measure => simp [intOf]; omega
    · obtain rfl : k = mn := by omega
      have HR3 : Hid (R = decide (k ≤ 64)) := Lib.hid (by
        have h1 := HP.out
        rw [HMN.out, List.take_length] at h1
        rw [HR.out, h1]; rfl)
      by_cases h64 : k ≤ 64
      · have t2 : decide ((k : Int) ≤ 64) = true := by simp; omega
        go_wp2_with fail
        go_ret
        exact ⟨by rw [HR3.out, decide_eq_true h64]; rfl, hE⟩
      · have t2 : decide ((k : Int) ≤ 64) = false := by simp; omega
        go_wp2_with fail
        go_ret
        exact ⟨by rw [HR3.out, decide_eq_false h64]; rfl, hE⟩
end Go.Proofs.YtfagnbofnaoncaaGreatDoor

/- The walk over the reference 02: Int, by itself. (what a smaller cut has) -/

namespace Go.Proofs.YtfagnbofnaoncaaGreatDoor
open Go Go.RowKit
attribute [local go_sem] yields yUpon

theorem nat_xor_top (V : Nat) (h : V < 18446744073709551616) : V ^^^ 9223372036854775808 = (V + 9223372036854775808) % 18446744073709551616 := by
  apply Nat.eq_of_testBit_eq
  intro i
  have e1 : (9223372036854775808 : Nat) = 2 ^ 63 := by decide
  have e2 : (18446744073709551616 : Nat) = 2 ^ 64 := by decide
  rw [e1, e2, Nat.testBit_xor, Nat.testBit_mod_two_pow, Nat.testBit_two_pow]
  rcases Nat.lt_trichotomy i 63 with hi | hi | hi
  · rw [Nat.add_comm, Nat.testBit_two_pow_add_gt hi]
    have : ¬ 63 = i := by omega
    have h' : i < 64 := by omega
    simp [this, h']
  · subst hi
    rw [Nat.add_comm, Nat.testBit_two_pow_add_eq]
    simp
  · have h1 : V.testBit i = false := Nat.testBit_lt_two_pow (Nat.lt_of_lt_of_le (by rw [← e2]; exact h) (Nat.pow_le_pow_right (by decide) (by omega : 64 ≤ i)))
    have h2 : ¬ 63 = i := by omega
    have h3 : ¬ i < 64 := by omega
    simp [h1, h2, h3]

theorem bits_xor_top (V : Nat) (h : V < 18446744073709551616) : bits .xor .u64 (V : Int) 9223372036854775808 = (((V + 9223372036854775808) % 18446744073709551616 : Nat) : Int) := by
  have e : bits .xor .u64 (V : Int) ((9223372036854775808 : Nat) : Int) = ((V ^^^ 9223372036854775808 : Nat) : Int) := by
    simp only [bits, BitVec.ofInt_natCast, BitVec.toNat_xor, BitVec.toNat_ofNat]
    have hp : (2 : Nat) ^ IntKind.u64.bits = 18446744073709551616 := by decide
    rw [hp, Nat.mod_eq_of_lt h, Nat.mod_eq_of_lt (by decide), IntKind.wrap_u64, nat_xor_top V h]
    omega
  rw [nat_xor_top V h] at e
  exact e
theorem str_app (l m : List UInt8) : str l ++ str m = str (l ++ m) := by
  apply ByteArray.ext
  simp [str]
theorem ret_str {x y : ByteArray} (h : x = y) : Ending.returned (.string x) = .returned (.string y) := by rw [h]

theorem byte_in (w : World) (X : Int) (h0 : 0 ≤ X) (h1 : X < 256) : BytesIn (w.alloc (.cells #[.int .u8 X] 5)) (.slice (some ⟨w.heap.size, 0, none⟩) 1 1) [UInt8.ofNat X.toNat] := by
  unfold BytesIn
  rw [← cs1 h0 h1]
  exact SliceIn.made w _ _ 1 (by unfold maxLen; omega)
end Go.Proofs.YtfagnbofnaoncaaGreatDoor

/- The walk over the reference 02: Num. -/
namespace Go.Proofs.YtfagnbofnaoncaaGreatDoor
open Go Go.RowKit
attribute [local go_sem] yields yUpon

theorem nlen_of {x k : Nat} (h1 : x / 256 ^ k = 0) (h2 : k = 0 ∨ 0 < x / 256 ^ (k - 1)) : k = nlen x := by
  have hp : ∀ j : Nat, (256 : Nat) ^ j = 2 ^ (8 * j) := fun j => by rw [Nat.pow_mul]
  have hx : x < 2 ^ (8 * k) := by
    rw [← hp]
    rcases Nat.div_eq_zero_iff.1 h1 with h | h
    · exact absurd h (Nat.pos_iff_ne_zero.1 (Nat.pow_pos (by decide)))
    · exact h
  have hb := bitsOf_lt x
  unfold nlen
  by_cases h0 : x = 0
  · subst h0
    rcases h2 with rfl | h2
    · rfl
    · simp at h2
  · have hl := bitsOf_le x h0
    have a1 : bitsOf x - 1 < 8 * k := (Nat.pow_lt_pow_iff_right (by decide : 1 < 2)).1 (Nat.lt_of_le_of_lt hl hx)
    rcases h2 with rfl | h2
    · simp at hx; omega
    · have a2 : 2 ^ (8 * (k - 1)) ≤ x := by
        rw [← hp]
        rcases Nat.lt_or_ge x (256 ^ (k - 1)) with h | h
        · rw [Nat.div_eq_of_lt h] at h2; omega
        · exact h
      have a3 : 8 * (k - 1) < bitsOf x := (Nat.pow_lt_pow_iff_right (by decide : 1 < 2)).1 (Nat.lt_of_le_of_lt a2 hb)
      omega

theorem ofNat_mod (n : Nat) : UInt8.ofNat (n % 256) = UInt8.ofNat n := by
  apply UInt8.toNat_inj.1
  simp
set_option maxRecDepth 100000 in
set_option maxHeartbeats 1000000 in
theorem rnum_any (x : Nat) (hx : x < 18446744073709551616) (w : World) :
    Calls Tryz.prog 91 #[.int .u64 x] w fun e w' => e = .returned (.string (str (num x))) ∧ Ext w w' := by
  have h8 : nlen x ≤ 8 := by have := bitsOf_le64 hx; unfold nlen; omega
  go_enter Tryz.func91, Tryz.ntmps91
  go_wp2
  go_loopw [0, 3] (fun v t wr => ∃ (k V : Nat), V = x / 256 ^ k ∧ v = .int .u64 V ∧ t = .string (str (beB k x)) ∧ Hid (k = 0 ∨ 0 < x / 256 ^ (k - 1)) ∧ k ≤ 8 ∧ Ext w wr) (fun v _ _ => (intOf v).toNat)
  case atStart => exact ⟨0, x, by simp, rfl, rfl, .inl rfl, by omega, Ext.refl w⟩
  case round =>
    obtain ⟨k, V, hV, rfl, rfl, hp, hk, hE⟩ := hrel
    have HV := Lib.hid hV
    have hVx : V < 18446744073709551616 := by rw [hV]; exact Nat.lt_of_le_of_lt (Nat.div_le_self _ _) hx
    have q1 : ¬ 9223372036854775807 < 1 + (beB k x).length := by rw [beB_length]; omega
    have q2 := beB_length k x
    clear hV
    by_cases h0 : 0 < V
    · have d0 : decide ((0 : Int) < (V : Int)) = true := by simpa using h0
      have hX0 : (0 : Int) ≤ (V : Int) % 256 := by omega
      have hX1 : (V : Int) % 256 < 256 := by omega
      have hk7 : k < 8 := by
        rcases Nat.lt_or_ge k 8 with h | h
        · exact h
        · obtain rfl : k = 8 := by omega
          rw [HV.out, Nat.div_eq_of_lt hx] at h0
          omega
      have hcat : Hid (str [UInt8.ofNat ((V : Int) % 256).toNat] ++ str (beB k x) = str (beB (k + 1) x)) := by
        rw [str_app, show ((V : Int) % 256).toNat = V % 256 by omega, ofNat_mod, HV.out]
        rfl
      have hV2 : Hid (V / 256 = x / 256 ^ (k + 1)) := Lib.hid (by rw [HV.out, Nat.div_div_eq_div_mul, Nat.pow_succ])
      go_wp2
      rw [run_convert_bytesIn _ 79 9 5 und_bytes und_u8 und_string (byte_in wr _ hX0 hX1)]
      simp only [Result.andThen]
      rw [Oper.upon_value]
      go_wp2
      go_roundw
      case rel => exact ⟨k + 1, V / 256, hV2.out, by go_num, by rw [← hcat.out, show ((V : Int) % 256).toNat = V % 256 by omega], .inr (by rw [Nat.add_sub_cancel, ← HV.out]; exact h0), by omega, hE.alloc _⟩
      case measure => simp [intOf] <;> omega
    · have d0 : decide ((0 : Int) < (V : Int)) = false := by simpa using h0
      have hkn : Hid (k = nlen x) := nlen_of (by rw [← HV.out]; omega) hp.out
      have q3 : ¬ 9223372036854775807 < 1 + k := by omega
      go_wp2
      rw [run_convert_bytesIn _ 79 9 5 und_bytes und_u8 und_string (byte_in wr _ (by omega) (by omega))]
      simp only [Result.andThen]
      rw [Oper.upon_value]
      go_wp2
      go_ret
      refine ⟨ret_str ?_, hE.alloc _⟩
      rw [str_app]
      unfold num
      rw [← hkn.out]
      rfl
end Go.Proofs.YtfagnbofnaoncaaGreatDoor

/- The reference of chapter 9: Num, Text, cell. -/
namespace Go.Proofs.YtfagnbofnaoncaaGreatDoor
open Go Go.RowKit
attribute [local go_sem] yields yUpon

theorem str_dat (s : ByteArray) : str s.data.toList = s := rfl
theorem str_txt (l : List UInt8) (s : ByteArray) : str l ++ s = str (l ++ s.data.toList) := by
  conv => lhs; rw [← str_dat s]
  exact str_app _ _
set_option maxHeartbeats 400000 in
theorem r9_num (X : Int) (h0 : 0 ≤ X) (h1 : X ≤ 9223372036854775807) (w : World) :
    Calls Tryz.prog 33 #[.int .i64 X] w fun e w' => e = .returned (.string (str (num X.toNat))) ∧ Ext w w' := by
  have hX : X = ((X.toNat : Nat) : Int) := by omega
  have hlt : X.toNat < 18446744073709551616 := by omega
  obtain ⟨x, hx⟩ : ∃ x, x = X.toNat := ⟨_, rfl⟩
  rw [← hx] at hX hlt ⊢
  clear hx
  subst hX
  have hw : IntKind.u64.wrap (x : Int) = (x : Int) := by rw [IntKind.wrap_u64]; omega
  go_enter Tryz.func33, Tryz.ntmps33
  go_wp2_with (go_at_call 91; go_must (refine (rnum_any x hlt _).mono ?_); rintro e w1 ⟨rfl, hE1⟩)
  go_ret
  exact ⟨rfl, hE1⟩
/-- A text's bytes. -/
def txT (s : ByteArray) : ByteArray := str (num s.size ++ s.data.toList)
theorem txT_size (s : ByteArray) (hs : s.size ≤ 1000000000) : (txT s).size ≤ s.size + 9 := by
  have := num_length (x := s.size) (by omega)
  unfold txT
  rw [str_size, List.length_append, dat_size]
  omega
set_option maxHeartbeats 400000 in
theorem r9_text (s : ByteArray) (hs : s.size ≤ 1000000000) (w : World) :
    Calls Tryz.prog 35 #[.string s] w fun e w' => e = .returned (.string (txT s)) ∧ Ext w w' := by
  obtain ⟨M, hM⟩ : ∃ M, M = str (num s.size) := ⟨_, rfl⟩
  have hMl : M.size ≤ 9 := by rw [hM, str_size]; exact num_length (by omega)
  have q1 : ¬ 9223372036854775807 < M.size + s.size := by omega
  have HM := Lib.hid hM
  clear hM
  go_enter Tryz.func35, Tryz.ntmps35
  go_wp2_with (go_at_call 33; go_must (refine (r9_num (s.size : Int) (by omega) (by omega) _).mono ?_); rintro e w1 ⟨rfl, hE1⟩; rw [show str (num (s.size : Int).toNat) = M from by rw [HM.out]; rfl])
  go_ret
  exact ⟨ret_str (by rw [HM.out, str_txt]; rfl), hE1⟩

set_option maxRecDepth 100000 in
set_option maxHeartbeats 4000000 in
theorem r9_cell (c : Cl) (hc : OkC c) (w : World) :
    Calls Tryz.prog 134 #[.agg (cl4 c)] w fun e w' => e = .returned (.string (str (cellP c))) ∧ Ext w w' := by
  have hE0 := (Ext.refl w).alloc (.cells (cl4 c) 55)
  have hbx := BoxAt.made w (cl4 c) 55
  obtain ⟨val, dead, at_, fin⟩ := c
  obtain ⟨h0, h1, h2, h3, h4⟩ := hc
  simp only at h0 h1 h2 h3 h4
  unfold cl4 at *
  simp only at hbx hE0 ⊢
  have x0 : (w.alloc (.cells #[.string val, .bool dead, .int .i64 at_, .int .i64 fin] 55)).cell? ⟨w.heap.size, 0, none⟩ = some (.string val) := hbx.cell 0
  have x1 : (w.alloc (.cells #[.string val, .bool dead, .int .i64 at_, .int .i64 fin] 55)).cell? ⟨w.heap.size, 1, none⟩ = some (.bool dead) := hbx.cell 1
  have x2 : (w.alloc (.cells #[.string val, .bool dead, .int .i64 at_, .int .i64 fin] 55)).cell? ⟨w.heap.size, 2, none⟩ = some (.int .i64 at_) := hbx.cell 2
  have x3 : (w.alloc (.cells #[.string val, .bool dead, .int .i64 at_, .int .i64 fin] 55)).cell? ⟨w.heap.size, 3, none⟩ = some (.int .i64 fin) := hbx.cell 3
  obtain ⟨A, hA⟩ : ∃ A, A = str (num at_.toNat) := ⟨_, rfl⟩
  obtain ⟨V, hV⟩ : ∃ V, V = txT val := ⟨_, rfl⟩
  obtain ⟨F, hF⟩ : ∃ F, F = str (num fin.toNat) := ⟨_, rfl⟩
  have zA : A.size ≤ 9 := by rw [hA, str_size]; exact num_length (by omega)
  have zF : F.size ≤ 9 := by rw [hF, str_size]; exact num_length (by omega)
  have zV : V.size ≤ 1009 := by rw [hV]; have := txT_size val (by omega); omega
  have q1 : ¬ 9223372036854775807 < A.size + 1 := by omega
  have q2 : ¬ 9223372036854775807 < A.size + 1 + V.size := by omega
  have q3 : ¬ 9223372036854775807 < A.size + 1 + V.size + F.size := by omega
  have HA := Lib.hid hA
  have HV := Lib.hid hV
  have HF := Lib.hid hF
  clear hA hV hF zA zF zV
  by_cases e0 : at_ = 0
  · subst e0
    go_enter Tryz.func134, Tryz.ntmps134
    go_wp2_with (go_at_call 33; go_must (refine (r9_num 0 (by omega) (by omega) _).mono ?_); rintro e w1 ⟨rfl, hE1⟩)
    go_ret
    exact ⟨ret_str (by unfold cellP; rw [if_pos rfl, List.append_nil]; rfl), hE0.trans hE1⟩
  · by_cases ed : dead = true
    · subst ed
      go_enter Tryz.func134, Tryz.ntmps134
      go_wp2_with (go_at_call 33; go_must (refine (r9_num at_ (by omega) (by omega) _).mono ?_); rintro e w1 ⟨rfl, hE1⟩; rw [← HA.out])
      go_ret
      exact ⟨ret_str (by rw [HA.out]; unfold cellP; rw [if_neg e0, if_pos rfl]; exact str_app _ [1]), hE0.trans hE1⟩
    · obtain rfl : dead = false := by simpa using ed
      go_enter Tryz.func134, Tryz.ntmps134
      go_wp2
      refine wp_region_tab 12 [(2, fun v _ => v = .string A), (6, fun v _ => v = .string V), (10, fun v _ => v = .string F)] (by kernel_rfl) (by kernel_rfl) (by kernel_rfl) ⟨stays_eq _, stays_eq _, stays_eq _, trivial⟩ ?_
      replace x0 := held x0
      replace x2 := held x2
      replace x3 := held x3
      refine rg_quiet rfl rfl rfl rfl ?_; intro K hK; go_big_quiet_op; go_big_quiet_on
      refine rg_quiet rfl rfl rfl rfl ?_; intro K hK; go_big_quiet_op; go_big_quiet_on
      refine rg_val [] rfl rfl rfl (by kernel_rfl) (fun w1 hE hf => ?_) ?_
      · go_simp
        exact ((HA.out ▸ r9_num at_ (by omega) (by omega) _)).mono fun e w' ⟨he, hw⟩ => ⟨_, he, rg_done hE hw (rfl)⟩
      simp only [Act.put, List.setIfInBounds_toArray, List.set_cons_zero, List.set_cons_succ]
      refine rg_quiet rfl rfl rfl rfl ?_; intro K hK; go_big_quiet_op; go_big_quiet_on
      refine rg_quiet rfl rfl rfl rfl ?_; intro K hK; go_big_quiet_op; go_big_quiet_on
      refine rg_quiet rfl rfl rfl rfl ?_; intro K hK; go_big_quiet_op; go_big_quiet_on
      refine rg_val [] rfl rfl rfl (by kernel_rfl) (fun w1 hE hf => ?_) ?_
      · go_simp
        exact ((HV.out ▸ r9_text val (by omega) _)).mono fun e w' ⟨he, hw⟩ => ⟨_, he, rg_done hE hw (rfl)⟩
      simp only [Act.put, List.setIfInBounds_toArray, List.set_cons_zero, List.set_cons_succ]
      refine rg_quiet rfl rfl rfl rfl ?_; intro K hK; go_big_quiet_op; go_big_quiet_on
      refine rg_quiet rfl rfl rfl rfl ?_; intro K hK; go_big_quiet_op; go_big_quiet_on
      refine rg_quiet rfl rfl rfl rfl ?_; intro K hK; go_big_quiet_op; go_big_quiet_on
      refine rg_val [] rfl rfl rfl (by kernel_rfl) (fun w1 hE hf => ?_) ?_
      · go_simp
        exact ((HF.out ▸ r9_num fin (by omega) (by omega) _)).mono fun e w' ⟨he, hw⟩ => ⟨_, he, rg_done hE hw (rfl)⟩
      simp only [Act.put, List.setIfInBounds_toArray, List.set_cons_zero, List.set_cons_succ]
      refine rg_quiet rfl rfl rfl rfl ?_; intro K hK; go_big_quiet_op; go_big_quiet_on
      refine rel_tail rfl rfl fun w2 hE2 _ => ?_
      go_wp2
      go_ret
      refine ⟨ret_str ?_, hE0.trans hE2⟩
      rw [HA.out, HV.out, HF.out]
      unfold cellP txT
      rw [if_neg e0, if_neg (by simp)]
      have e1 : (⟨#[0]⟩ : ByteArray) = str [0] := rfl
      rw [e1, str_app, str_app, str_app]
      simp only [List.append_assoc]
end Go.Proofs.YtfagnbofnaoncaaGreatDoor
