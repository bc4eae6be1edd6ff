/- The walks over package order and what it is asked beside: each function's answer, as a plain function of what its arguments read as. -/
import Derived.Test.YtiaoplehamjbkaaBytes
import Derived.Test.YtiaoplehamjbkaaShelf
import Derived.Lib.ItoaNum
namespace Go.Proofs.Ytiaoplehamjbkaa
open Go Go.RowKit

set_option maxHeartbeats 400000 in
theorem own_any (a : Option Addr) (n c : Nat) (h : n ≤ c) (_hc : c ≤ maxLen) (w : World) :
    Calls Try.prog 41 #[.slice a n c] w fun e w' => e = .returned (.slice a n n) ∧ w = w' := by
  unfold maxLen at _hc
  go_enter Try.func41, Try.ntmps41
  go_wp2
  go_ret
  exact ⟨rfl, rfl⟩

set_option maxHeartbeats 400000 in
theorem place_any (v n : Int) (h : 1 ≤ n) (hn : n ≤ 9223372036854775807) (w : World) :
    Calls Try.prog 17 #[.int .i64 v, .int .i64 n] w fun e w' => e = .returned (.int .i64 (v % n)) ∧ w = w' := by
  have hlo := (tmod_lo (v := v) h).1
  have hhi := (tmod_lo (v := v) h).2
  by_cases h0 : v.tmod n < 0
  · have HE := Lib.hid (tmod_neg h h0)
    go_enter Try.func17, Try.ntmps17
    go_wp2
    go_ret
    exact ⟨ret_int HE.out, rfl⟩
  · have h0' : 0 ≤ v.tmod n := by omega
    have HE := Lib.hid (tmod_pos h h0')
    go_enter Try.func17, Try.ntmps17
    go_wp2
    go_ret
    exact ⟨ret_int HE.out, rfl⟩

theorem mod256 (X : Int) : 0 ≤ X % 256 ∧ X % 256 < 256 := ⟨Int.emod_nonneg _ (by decide), Int.emod_lt_of_pos _ (by decide)⟩
theorem nlen_int (x : Nat) : (((bitsOf x : Int) + 8 - 1) / 8).toNat = nlen x := by unfold nlen; omega
theorem num_step {w w0 : World} {v : Value} {l : List UInt8} {x j k : Nat} (h : j + (k + 1) = nlen x) (hown : OwnB w w0.heap.size v ((l ++ UInt8.ofNat (nlen x) :: (beB (nlen x) x).take j) ++ [UInt8.ofNat (((x : Int) / 2 ^ (8 * k) % 256).toNat)])) :
    OwnB w w0.heap.size v (l ++ UInt8.ofNat (nlen x) :: (beB (nlen x) x).take (j + 1)) := by
  have e : (l ++ UInt8.ofNat (nlen x) :: (beB (nlen x) x).take j) ++ [UInt8.ofNat (((x : Int) / 2 ^ (8 * k) % 256).toNat)] = l ++ UInt8.ofNat (nlen x) :: (beB (nlen x) x).take (j + 1) := by
    rw [List.append_assoc, List.cons_append, List.take_add_one, beB_get (by omega)]
    simp only [Option.toList_some]
    rw [show nlen x - 1 - j = k by omega, byte_shift]
  rw [← e]
  exact hown

set_option maxHeartbeats 400000 in
theorem num_any (v : Value) (l : List UInt8) (x : Nat) (hx : x < 18446744073709551616) (w : World) (hv : BytesIn w v l) (hl : l.length ≤ 140737488000000)
    (hlen : ∀ w', Calls Try.prog 40 #[.int .u64 x] w' fun e w'' => e = .returned (.int .i64 (bitsOf x)) ∧ w' = w'') :
    Calls Try.prog 14 #[v, .int .u64 x] w fun e w' => ∃ v', e = .returned v' ∧ OwnB w' w.heap.size v' (l ++ num x) ∧ Ext w w' := by
  obtain ⟨a, c, rfl, hc, hcm, ha, hcell⟩ := hv
  have hv : BytesIn w (.slice a l.length l.length) l := ⟨a, l.length, rfl, Nat.le_refl _, Nat.le_trans hc hcm, fun h => by have := ha h; omega, hcell⟩
  have hb : bitsOf x ≤ 64 := bitsOf_le64 hx
  clear hcell ha
  go_enter Try.func14, Try.ntmps14
  go_wp2_with (first
    | (go_at_call 40; refine (hlen _).mono ?_; rintro e w' ⟨rfl, rfl⟩)
    | (go_at_call 41; refine (own_any _ _ _ hc hcm _).mono ?_; rintro e w' ⟨rfl, rfl⟩)
    | (at_builtin; go_must (refine appB w rfl (.tmp 12) (.tmp 15) rfl w (Ext.refl w) _ _ _ _ (cs1 (by omega) (by omega)) (by simp) rfl (Tip.full hv) _ rfl rfl (by simp; omega) ?_); intro v1 w1 hown1 hE1))
  clear hv hc hcm
  go_loopw [0, 5] (fun v n wr => ∃ (j k : Nat), j + k = nlen x ∧ n = .int .i64 ((k : Int) - 1) ∧ OwnB wr w.heap.size v (l ++ UInt8.ofNat (nlen x) :: (beB (nlen x) x).take j) ∧ Ext w wr) (fun _ n _ => (intOf n + 1).toNat)
  case atStart => exact ⟨0, nlen x, by omega, by unfold nlen; go_num, by rw [nlen_int] at hown1; simpa using hown1, hE1⟩
  case round =>
    obtain ⟨j, k, hjk, rfl, hown, hE⟩ := hrel
    cases k with
    | zero =>
      go_wp2
      go_ret
      exact ⟨_, rfl, by rw [show j = nlen x by omega, List.take_of_length_le (by rw [beB_length]; omega)] at hown; exact hown, hE⟩
    | succ k =>
      have hk8 : k ≤ 7 := by unfold nlen at hjk; omega
      have hj8 : j ≤ 8 := by unfold nlen at hjk; omega
      go_wp2_with (at_builtin; go_must (refine appB wr rfl (.tmp 23) (.tmp 29) rfl w hE _ _ _ _ (cs1 (mod256 _).1 (mod256 _).2) (by simp) rfl (Tip.own hown) _ rfl rfl (by simp [beB_length]; omega) ?_); intro v2 w2 hown2 hE2)
      go_roundw
      case rel => exact ⟨j + 1, k, by omega, rfl, num_step hjk hown2, hE2⟩
      case measure => simp [intOf] <;> omega

theorem cs255 : (#[Value.int .u8 255] : Array Value).toList = bcells [255] := rfl
theorem cs01 : (#[Value.int .u8 0, Value.int .u8 1] : Array Value).toList = bcells [0, 1] := rfl
theorem take_snoc (s : ByteArray) (k : Nat) (h : k < s.size) : s.data.toList.take (k + 1) = s.data.toList.take k ++ [s[k]] := by
  rw [List.take_succ_eq_append_getElem (by simpa using h)]; rfl

theorem text_zero {w w0 : World} {v : Value} {l : List UInt8} {s : ByteArray} {k : Nat} {b : UInt8} (h1 : s.data.toList.take (k + 1) = s.data.toList.take k ++ [b])
    (h2 : esc (s.data.toList.take k ++ [b]) = esc (s.data.toList.take k) ++ if b = 0 then [0, 255] else [b]) (hz : ((b.toNat : Int) == 0) = true) (h : OwnB w w0.heap.size v (l ++ esc (s.data.toList.take k) ++ [b] ++ [255])) :
    OwnB w w0.heap.size v (l ++ esc (s.data.toList.take (k + 1))) := by
  have hb : b = 0 := by apply UInt8.toNat.inj; have := beq_iff_eq.1 hz; simpa using this
  subst hb
  rw [h1, h2]
  simpa using h
theorem text_other {w w0 : World} {v : Value} {l : List UInt8} {s : ByteArray} {k : Nat} {b : UInt8} (h1 : s.data.toList.take (k + 1) = s.data.toList.take k ++ [b])
    (h2 : esc (s.data.toList.take k ++ [b]) = esc (s.data.toList.take k) ++ if b = 0 then [0, 255] else [b]) (hz : ((b.toNat : Int) == 0) = false) (h : OwnB w w0.heap.size v (l ++ esc (s.data.toList.take k) ++ [b])) :
    OwnB w w0.heap.size v (l ++ esc (s.data.toList.take (k + 1))) := by
  have hb : b ≠ 0 := by rintro rfl; simp at hz
  rw [h1, h2, if_neg hb]
  simpa using h

set_option maxHeartbeats 400000 in
theorem text_any (v : Value) (l : List UInt8) (s : ByteArray) (w : World) (hv : BytesIn w v l) (hl : l.length + 2 * s.size + 2 ≤ 140737488355328) :
    Calls Try.prog 15 #[v, .string s] w fun e w' => ∃ v', e = .returned v' ∧ OwnB w' w.heap.size v' (l ++ txt s.data.toList) ∧ Ext w w' := by
  obtain ⟨a, c, rfl, hc, hcm, ha, hcell⟩ := hv
  have hv : BytesIn w (.slice a l.length l.length) l := ⟨a, l.length, rfl, Nat.le_refl _, Nat.le_trans hc hcm, fun h => by have := ha h; omega, hcell⟩
  clear hcell ha
  go_enter Try.func15, Try.ntmps15
  go_wp2_with (go_at_call 41; refine (own_any _ _ _ hc hcm _).mono ?_; rintro e w' ⟨rfl, rfl⟩)
  clear hc hcm
  go_loopw [0, 10] (fun v n wr => ∃ k : Nat, k ≤ s.size ∧ n = .int .i64 k ∧ Tip wr w.heap.size v (l ++ esc (s.data.toList.take k)) ∧ Ext w wr) (fun _ n _ => s.size - (intOf n).toNat)
  case atStart => exact ⟨0, Nat.zero_le _, rfl, by simpa [esc] using Tip.full hv, Ext.refl w⟩
  case round =>
    obtain ⟨k, hk, rfl, hown, hE⟩ := hrel
    have hlen : (esc (s.data.toList.take k)).length ≤ 2 * k := Nat.le_trans (esc_length_le _) (by simp; omega)
    by_cases hlt : k < s.size
    · have hsn := Lib.hid (esc_snoc (s.data.toList.take k) s[k])
      have hts := Lib.hid (take_snoc s k hlt)
      go_wp2_with (first
        | (at_builtin; refine appB wr rfl (.tmp 13) (.tmp 17) rfl w hE _ _ _ _ (csb _) (by simp) rfl hown _ rfl rfl (by simp; omega) ?_; intro v2 w2 hown2 hE2)
        | (at_builtin; go_must (refine appB _ rfl (.tmp 23) (.tmp 24) rfl w hE2 _ _ _ [255] cs255 (by simp) rfl (Tip.own hown2) _ rfl rfl (by simp; omega) ?_); intro v3 w3 hown3 hE3))
      · have hz : ((s[k].toNat : Int) == 0) = true := by assumption
        go_roundw
        case rel => exact ⟨k + 1, by omega, by go_num, Tip.own (text_zero hts.out hsn.out hz hown3), hE3⟩
        case measure => simp [intOf] <;> omega
      · have hz : ((s[k].toNat : Int) == 0) = false := by assumption
        go_roundw
        case rel => exact ⟨k + 1, by omega, by go_num, Tip.own (text_other hts.out hsn.out hz hown2), hE2⟩
        case measure => simp [intOf] <;> omega
    · go_wp2_with (at_builtin; go_must (refine appB wr rfl (.tmp 27) (.tmp 28) rfl w hE _ _ _ [0, 1] cs01 (by simp) rfl hown _ rfl rfl (by simp; omega) ?_); intro v3 w3 hown3 hE3)
      go_ret
      exact ⟨_, rfl, by rw [List.take_of_length_le (by simp; omega), List.append_assoc] at hown3; exact hown3, hE3⟩

theorem int_step {v u : Int} {k : Nat} {c : Array Value} (hk : k < 8) (hc : 8 ≤ c.size) (hu : 0 ≤ u) (h : u.toNat = ((v + 9223372036854775808) % 18446744073709551616).toNat) (hh : c.toList.take k = bcells ((int8 v).take k)) :
    (c.setIfInBounds k (.int .u8 (u / 2 ^ (8 * (7 - k)) % 256))).toList.take (k + 1) = bcells ((int8 v).take (k + 1)) := by
  have hl : (int8 v).length = 8 := beB_length _ _
  have hlk : k < c.toList.length := by simp; omega
  rw [Array.toList_setIfInBounds, List.take_add_one, List.take_add_one, List.take_set_of_le (Nat.le_refl k), hh, bcells_append]
  congr 1
  unfold int8
  rw [beB_get hk, List.getElem?_set_self hlk]
  simp only [Option.toList_some, bcells, List.map_cons, List.map_nil]
  congr 2
  obtain ⟨x, rfl⟩ := Int.eq_ofNat_of_zero_le hu
  rw [show (8 - 1 - k) = 7 - k by omega, ← h, ← byte_shift, byte_of (mod256 _).1 (mod256 _).2]
  rfl
theorem int_bytes {w : World} {v : Int} {k : Nat} {c : Array Value} (hk : k ≤ 8) (hlt : ¬ k < 8) (hc2 : c.size ≤ 8) (hh : c.toList.take k = bcells ((int8 v).take k)) :
    BytesIn (w.alloc (.cells c 5)) (.slice (some ⟨w.heap.size, 0, none⟩) 8 8) (int8 v) := by
  have hl : (int8 v).length = 8 := beB_length _ _
  obtain rfl : k = 8 := by omega
  rw [List.take_of_length_le (by simp; omega), List.take_of_length_le (by omega)] at hh
  refine ⟨some ⟨w.heap.size, 0, none⟩, 8, by rw [hl], by omega, by unfold maxLen; omega, nofun, fun j u hj => ⟨w.heap.size, 0, rfl, ?_⟩⟩
  rw [Nat.zero_add, cell_of_row _ w.heap.size j c 5 (0, 0) (heap_alloc_new w _)]
  rw [← hh] at hj
  simpa using hj

set_option maxHeartbeats 400000 in
theorem int_any (v : Int) (w : World) :
    Calls Try.prog 16 #[.int .i64 v] w fun e w' => e = .returned (.string (str (int8 v))) ∧ Ext w w' := by
  have hmk : ∀ w, (Instr.makeSlice 24 (.int .i64 8) (.int .i64 8)).run Try.prog w = .ok (.slice (some ⟨w.heap.size, 0, none⟩) 8 8) (w.alloc (.cells #[.int .u8 0, .int .u8 0, .int .u8 0, .int .u8 0, .int .u8 0, .int .u8 0, .int .u8 0, .int .u8 0] 5)) := fun _ => by kernel_rfl
  obtain ⟨u, hu, hu0, hu1⟩ : ∃ u : Int, u = (v + 9223372036854775808) % 18446744073709551616 ∧ 0 ≤ u ∧ u < 18446744073709551616 := ⟨_, rfl, by omega, by omega⟩
  have hw : IntKind.u64.wrap (IntKind.u64.wrap v + 9223372036854775808) = u := by rw [hu, IntKind.wrap_u64, IntKind.wrap_u64]; omega
  have hu' : u.toNat = ((v + 9223372036854775808) % 18446744073709551616).toNat := by rw [hu]
  have HU := Lib.hid hu'
  clear hu hu'
  go_enter Try.func16, Try.ntmps16
  go_wp2
  clear hw hmk
  go_loopw [12] (fun n wr => ∃ (k : Nat) (c : Array Value), k ≤ 8 ∧ n = .int .i64 k ∧ wr = w.alloc (.cells c 5) ∧ 8 ≤ c.size ∧ c.size ≤ 8 ∧ Hid (c.toList.take k = bcells ((int8 v).take k))) (fun n _ => 8 - (intOf n).toNat)
  case atStart => exact ⟨0, _, by omega, rfl, rfl, by simp, by simp, rfl⟩
  case round =>
    obtain ⟨k, c, hk, rfl, rfl, hc1, hc2, hc⟩ := hrel
    by_cases hlt : k < 8
    · obtain ⟨y, hy⟩ : ∃ y, c[k]? = some y := ⟨c[k], by simp [show k < c.size by omega]⟩
      go_wp2
      clear hy
      go_roundw
      case rel => exact ⟨k + 1, _, by omega, by go_num, rfl, by simp; omega, by simp; omega, Lib.hid (int_step hlt hc1 hu0 HU.out hc.out)⟩
      case measure => simp [intOf] <;> omega
    · have hB : BytesIn (w.alloc (.cells c 5)) (.slice (some ⟨w.heap.size, 0, none⟩) 8 8) (int8 v) := int_bytes hk hlt hc2 hc.out
      go_wp2_with (refine wpList_convert_bytes rfl 24 9 5 (.tmp 25) rfl und_bytes und_u8 und_string hB ?_)
      go_ret
      exact ⟨rfl, (Ext.refl w).alloc _⟩

theorem bitLen_bits (x : Nat) (hx : x < 18446744073709551616) : Lib.bitLen x = bitsOf x := by
  symm
  by_cases h : x = 0
  · subst h; rfl
  · have := Lib.bitLenAux_bounds 64 x (by simpa using hx) h
    exact bitsOf_unique this.2.2 (.inr this.2.1)

theorem len64_any (x : Nat) (hx : x < 18446744073709551616) (w : World) : Calls Try.prog 40 #[.int .u64 x] w fun e w' => e = .returned (.int .i64 (bitsOf x)) ∧ w = w' :=
  (Try.bits_Len64 x w (by omega) (by omega)).mono fun e w' h => ⟨by rw [h.1, Int.toNat_natCast, bitLen_bits x hx], h.2.symm⟩

/-- order.Num, for callers. -/
theorem Num_ok (v : Value) (l : List UInt8) (X : Int) (h0 : 0 ≤ X) (h1 : X < 18446744073709551616) (w : World) (hv : BytesIn w v l) (hl : l.length ≤ 140737488000000) :
    Calls Try.prog 14 #[v, .int .u64 X] w fun e w' => ∃ v', e = .returned v' ∧ OwnB w' w.heap.size v' (l ++ num X.toNat) ∧ Ext w w' := by
  obtain ⟨x, rfl⟩ := Int.eq_ofNat_of_zero_le h0
  have hx : x < 18446744073709551616 := by omega
  rw [Int.toNat_natCast]
  exact num_any v l x hx w hv hl (len64_any x hx)

/-- .. behind nothing; the number a Nat. -/
theorem Num_nil (x : Nat) (hx : x < 18446744073709551616) (w : World) :
    Calls Try.prog 14 #[.slice none 0 0, .int .u64 x] w fun e w' => ∃ v', e = .returned v' ∧ OwnB w' w.heap.size v' (num x) ∧ Ext w w' := by
  simpa using num_any _ [] x hx w (SliceIn.nil _) (by simp) (len64_any x hx)
theorem Text_nil (s : ByteArray) (w : World) (hl : 2 * s.size + 2 ≤ 140737488355328) :
    Calls Try.prog 15 #[.slice none 0 0, .string s] w fun e w' => ∃ v', e = .returned v' ∧ OwnB w' w.heap.size v' (txt s.data.toList) ∧ Ext w w' := by
  simpa using text_any _ [] s w (SliceIn.nil _) (by simpa using hl)

theorem num300 : num 300 = [2, 1, 44] := by decide
theorem txta : txt [97] = [97, 0, 1] := by decide
theorem int0 : int8 0 = [128, 0, 0, 0, 0, 0, 0, 0] := by decide

set_option maxHeartbeats 400000 in
theorem awake_any (w : World) : Calls Try.prog 13 #[] w fun e w' => e = .returned (.bool true) ∧ Ext w w' := by
  have s1 : str (num 300) = ⟨#[2, 1, 44]⟩ := by rw [num300]; rfl
  have s2 : str (txt [97]) = ⟨#[97, 0, 1]⟩ := by rw [txta]; rfl
  have s3 : str (int8 0) = ⟨#[128, 0, 0, 0, 0, 0, 0, 0]⟩ := by rw [int0]; rfl
  go_enter Try.func13, Try.ntmps13
  go_wp2_with (first
    | (go_at_call 14; go_must (refine (Num_ok _ [] 300 (by decide) (by decide) w (SliceIn.nil _) (by decide)).mono ?_); rintro e w1 ⟨v1, rfl, h1, hE1⟩)
    | (go_at_call 15; go_must (refine (text_any _ [] ⟨#[97]⟩ w1 (SliceIn.nil _) (by decide)).mono ?_); rintro e w2 ⟨v2, rfl, h2, hE2⟩)
    | (go_at_call 16; go_must (refine (int_any 0 w2).mono ?_); rintro e w3 ⟨rfl, hE3⟩)
    | (refine wpList_convert_bytes rfl 24 9 5 (.tmp 1) rfl und_bytes und_u8 und_string h1.bytes ?_)
    | (refine wpList_convert_bytes rfl 24 9 5 (.tmp 5) rfl und_bytes und_u8 und_string h2.bytes ?_))
  go_ret
  exact ⟨rfl, (hE1.trans hE2).trans hE3⟩
end Go.Proofs.Ytiaoplehamjbkaa
