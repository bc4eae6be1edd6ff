/- Package segment: left, piece, Put. -/
import Derived.Test.YtimbikbbbfpeeaaGreatDoorP39
import Derived.Test.YtimbikbbbfpeeaaGreatDoorP28
import Derived.WalkMore
import Derived.ScopeJumps
import Derived.Deep.RegionWith
import Derived.Shelf.Strings.Builder1
import Derived.Shelf.Strings.Trim
import Derived.Shelf.Small.Utf8
import Derived.Shelf.Small.Strs
import Derived.Shelf.Strings.BuilderF
import Derived.Shelf.Strings.BuilderK
import Derived.Shelf.Unicode.Decode
import Derived.Test.YtimbikbbbfpeeaaGreatDoorProg
import Derived.Test.YtimbikbbbfpeeaaGreatDoorP1
import Derived.Lib.Builder
import Derived.Lib.OthersKept
import Derived.Laws.Externs
import Derived.WalkKit
set_option linter.unusedSimpArgs false
set_option linter.unusedVariables false
namespace Go.Proofs.YtimbikbbbfpeeaaGreatDoor
open Go Go.RowKit
attribute [local go_sem] yields yUpon

set_option maxHeartbeats 400000 in
theorem left_any (n : Nat) (hn : n ≤ 4611686018427387904) (w : World) :
    Calls Tryz.prog 104 #[.int .i64 (n : Int)] w fun e w' => e = .returned (.int .i64 (128 - (n : Int) % 128)) ∧ w = w' := by
  go_enter Tryz.func104, Tryz.ntmps104
  go_wp2
  go_ret
  exact ⟨rfl, rfl⟩

theorem two_bytes (k n : Nat) (hk : k < 256) (hn : n < 256) (w : World) : BytesIn (w.alloc (.cells #[Value.int .u8 (k : Int), Value.int .u8 (n : Int)] 5)) (.slice (some ⟨w.heap.size, 0, none⟩) 2 2) [UInt8.ofNat k, UInt8.ofNat n] := by
  have h := SliceIn.made w #[Value.int .u8 (k : Int), Value.int .u8 (n : Int)] 5 2 (by decide)
  have e : (#[Value.int .u8 (k : Int), Value.int .u8 (n : Int)] : Array Value).toList = bcells [UInt8.ofNat k, UInt8.ofNat n] := by
    simp only [bcells, List.map_cons, List.map_nil, UInt8.toNat_ofNat', Nat.reducePow, Nat.mod_eq_of_lt hk, Nat.mod_eq_of_lt hn]
  rw [e] at h
  exact h

set_option maxRecDepth 100000 in
set_option maxHeartbeats 2000000 in
theorem piece_any (W : World) (v : Value) (l : List UInt8) (kind : Nat) (hk : kind < 256) (body : ByteArray) (hb : body.size < 256) (hl : l.length ≤ 70368744177664) (w : World) (hE : Ext W w) (hT : Tip w W.heap.size v l) :
    Calls Tryz.prog 119 #[v, .int .i64 (kind : Int), .string body] w fun e w' => ∃ v', (e = .returned v' ∧ Ext W w') ∧ OwnB w' W.heap.size v' (l ++ pc kind body.data.toList) := by
  have hbs : (body.size : Int) < 256 := by omega
  go_enter Tryz.func119, Tryz.ntmps119
  go_wp2
  rw [run_convert_bytesIn _ 61 9 5 und_bytes und_u8 und_string (two_bytes kind body.size hk hb w)]
  simp only [Result.andThen]
  rw [Oper.upon_value]
  obtain ⟨two, htwo⟩ : ∃ two, two = str [UInt8.ofNat kind, UInt8.ofNat body.size] := ⟨_, rfl⟩
  have h2 : two.size = 2 := by rw [htwo]; rfl
  have h2d : two.data.toList = [UInt8.ofNat kind, UInt8.ofNat body.size] := by rw [htwo]; rfl
  have H2 := Lib.hid h2d
  rw [← htwo]
  clear htwo h2d
  go_wp2_with (at_builtin; go_must (refine appBs _ rfl (.tmp 15) (.tmp 16) rfl W (hE.alloc _) v l two rfl (hT.ext ((Ext.refl w).alloc _)) (by rfl) (by omega) (by omega) ?_); intro v1 w1 ho1 hE1)
  clear hT hE
  have hsz : (two ++ body).size = 2 + body.size := by rw [ByteArray.size_append, h2]
  have hdt : Hid ((two ++ body).data.toList = UInt8.ofNat kind :: UInt8.ofNat body.size :: body.data.toList) := Lib.hid (by rw [ByteArray.data_append, Array.toList_append, H2.out]; rfl)
  refine (tof_any (two ++ body) (by unfold maxLen; omega) _).mono ?_
  rintro e w2 ⟨rfl, hE2⟩
  rw [hdt.out]
  have ho2 := ho1.ext hE2
  have hE2 := hE1.trans hE2
  clear ho1 hE1 hsz hdt
  have htl := tok_lt (UInt8.ofNat kind :: UInt8.ofNat body.size :: body.data.toList) 1 (by decide)
  obtain ⟨T, hT⟩ : ∃ T, T = tok 1 (UInt8.ofNat kind :: UInt8.ofNat body.size :: body.data.toList) := ⟨_, rfl⟩
  rw [← hT] at htl ⊢
  have HT := Lib.hid hT
  clear hT
  go_wp2_with fail
  refine (tbytes_any T htl _).mono ?_
  rintro e w3 ⟨rfl, hE3⟩
  have ho3 := ho2.ext hE3
  have hE3 := hE2.trans hE3
  clear ho2 hE2
  have hll : (l ++ two.data.toList).length ≤ 70368744177667 := by rw [H2.out]; simp; omega
  go_wp2_with (first
    | ((guard_target =~ wpList _ _ _ (Oper.mk (some 23) _ _ _ _ _ :: _) _ _); go_must (refine appBo w3 rfl (.tmp 17) (.tmp 22) rfl W.heap.size hE3.le v1 _ (str (tok4 T)) rfl ho3 (by rfl) (by simp; omega) ?_); intro v4 w4 ho4 hg4; have hE4 := hE3.grown hg4 (fun k hk => (ho3.lt k hk).1); clear ho3 hE3 hg4)
    | ((guard_target =~ wpList _ _ _ (Oper.mk (some 25) _ _ _ _ _ :: _) _ _); go_must (refine appBo w4 rfl (.tmp 23) (.tmp 24) rfl W.heap.size hE4.le v4 _ body rfl ho4 (by rfl) (by simp; omega) ?_); intro v5 w5 ho5 hg5; have hE5 := hE4.grown hg5 (fun k hk => (ho4.lt k hk).1); clear ho4 hE4 hg5))
  go_ret
  refine ⟨_, ⟨rfl, hE5⟩, ?_⟩
  have e : l ++ two.data.toList ++ (str (tok4 T)).data.toList ++ body.data.toList = l ++ pc kind body.data.toList := by
    rw [H2.out, HT.out]
    simp [pc, str]
  rw [e] at ho5
  exact ho5

/-- What holds at each jump back. -/
structure PutJ (w w' : World) (v1 : Value) (lb : List UInt8) (bd : ByteArray) (l : List UInt8) (body : ByteArray) : Prop where
  own : OwnB w' w.heap.size v1 lb
  ext : Ext w w'
  full : lb.length % 128 = 0
  more : 0 < bd.size
  le : bd.size ≤ body.size
  len : lb.length ≤ 40000000000
  eq : Hid (lb ++ sput true lb.length bd.data.toList = l ++ sput false l.length body.data.toList)
theorem putj_step {begun : Bool} {lb bd target : List UInt8} (hg : gap lb.length = 0) (hgt : room lb.length < bd.length) (eq : lb ++ sput begun lb.length bd = target) :
    (lb ++ pc (kindOf begun false) (bd.take (room lb.length))) ++ sput true (lb ++ pc (kindOf begun false) (bd.take (room lb.length))).length (bd.drop (room lb.length)) = target ∧
    (lb ++ pc (kindOf begun false) (bd.take (room lb.length))).length = lb.length + (6 + room lb.length) ∧ (lb.length + (6 + room lb.length)) % 128 = 0 := by
  have hl : (lb ++ pc (kindOf begun false) (bd.take (room lb.length))).length = lb.length + (6 + room lb.length) := by simp; omega
  have hf := gap_full lb.length
  rw [hg] at hf
  refine ⟨?_, hl, by simpa using hf⟩
  rw [hl, ← eq, sput_more (b := begun) (n := lb.length) (body := bd) (by omega), hg]
  simp [zer]
theorem putj_end {begun : Bool} {lb bd target : List UInt8} (hg : gap lb.length = 0) (hle : bd.length ≤ room lb.length) (eq : lb ++ sput begun lb.length bd = target) : lb ++ pc (kindOf begun true) bd = target := by
  rw [← eq, sput_last (b := begun) hle, hg]
  simp [zer]
theorem ext_take (s : ByteArray) (n : Nat) : (s.extract 0 n).data.toList = s.data.toList.take n := by
  rw [ByteArray.data_extract]; simp
theorem ext_drop (s : ByteArray) (n : Nat) : (s.extract n s.size).data.toList = s.data.toList.drop n := by
  have e : s.size = s.data.toList.length := rfl
  rw [ByteArray.data_extract, Array.toList_extract, List.extract_eq_take_drop, e, List.take_of_length_le (by simp)]
def strSize : Value → Nat
  | .string s => s.size
  | _ => 0

set_option maxRecDepth 100000 in
set_option maxHeartbeats 8000000 in
theorem put_tip (v : Value) (l : List UInt8) (hl : l.length ≤ 4294967296) (body : ByteArray) (hb : body.size ≤ 4294967296) (w : World) (ao : Option Addr) (c : Nat) (hc : l.length ≤ c) (hcm : c ≤ 9223372036854775807) (hv : v = .slice ao l.length c) (hA : ∃ ad, ao = some ad) (h : Tip w w.heap.size (.slice ao l.length l.length) l) :
    Calls Tryz.prog 68 #[v, .string body] w fun e w' => ∃ v', (e = .returned v' ∧ Ext w w') ∧ OwnB w' w.heap.size v' (l ++ sput false l.length body.data.toList) := by
  obtain ⟨ad, rfl⟩ := hA
  subst hv
  go_enter Tryz.func68, Tryz.ntmps68
  go_wp2
  refine wp_scope_jumps 0 (fun a' w' => ∃ (v1 : Value) (lb : List UInt8) (bd : ByteArray) (u2 u3 u4 u5 u6 u8 u9 u10 u11 u12 u13 u14 u15 u16 u17 u18 u19 u20 u21 u22 u23 u24 u25 u26 u27 u28 u29 u30 u31 u32 u33 u34 u35 u36 u37 u38 u39 u40 u41 u42 u43 u44 u45 u46 u47 u48 u49 : Value), a' = { tmps := #[v1, .string bd, u2, u3, u4, u5, u6, .int .i64 4, u8, u9, u10, u11, u12, u13, u14, u15, u16, u17, u18, u19, u20, u21, u22, u23, u24, u25, u26, u27, u28, u29, u30, u31, u32, u33, u34, u35, u36, u37, u38, u39, u40, u41, u42, u43, u44, u45, u46, u47, u48, u49], defers := [] } ∧ PutJ w w' v1 lb bd l body) (fun a' _ => strSize (a'.tmps.getD 1 undef)) rfl ?_ ?_
  · go_wp2_with (go_at_call 104; go_must (refine (left_any _ (by omega) _).mono ?_); rintro e w1 ⟨rfl, rfl⟩)
    have hgl : gap l.length = 0 ∧ 6 < 128 - l.length % 128 ∨ gap l.length = 128 - l.length % 128 ∧ 128 - l.length % 128 ≤ 6 := by unfold gap; split <;> omega
    have HT0 := Lib.hid h
    clear h
    go_loopw [0, 5] (fun b n wr => ∃ k : Nat, k ≤ gap l.length ∧ n = .int .i64 (128 - (l.length : Int) % 128 - k) ∧ Tip wr w.heap.size b (l ++ zer k) ∧ Ext w wr) (fun _ n _ => (intOf n).toNat)
    case atStart => exact ⟨0, Nat.zero_le _, by simp, by simpa [zer] using HT0.out, Ext.refl w⟩
    case round =>
      obtain ⟨k, hk, rfl, hT, hE⟩ := hrel
      by_cases hkk : k < gap l.length
      · have hg6 : gap l.length = 128 - l.length % 128 ∧ 128 - l.length % 128 ≤ 6 := by omega
        have hd1 : 128 - (l.length : Int) % 128 - k ≤ 6 := by omega
        have hd0 : 1 ≤ 128 - (l.length : Int) % 128 - k := by omega
        have hd2 : (128 - (l.length : Int) % 128 - k == 0) = false := by simp; omega
        clear hgl
        have HZ : Hid (l ++ zer k ++ [UInt8.ofNat (0 : Int).toNat] = l ++ zer (k + 1)) := Lib.hid (by simp [zer, List.replicate_succ'])
        have hlk : (l ++ zer k).length ≤ 4294967302 := by simp; omega
        go_wp2_with (at_builtin; go_must (refine appB wr rfl (.tmp 24) (.tmp 25) rfl w hE _ (l ++ zer k) _ [UInt8.ofNat (0 : Int).toNat] (cs1 (by omega) (by omega)) (by decide) (by rfl) hT 1 (by rfl) rfl (by simp; omega) ?_); intro v2 w2 ho2 hE2)
        rw [HZ.out] at ho2
        clear hT hE hd2
        go_wp2
        go_roundw
        case rel => exact ⟨k + 1, by omega, by go_num, Tip.own ho2, hE2⟩
        case measure => simp [intOf]; omega
      · obtain rfl : k = gap l.length := by omega
        have hlb : (l ++ zer (gap l.length)).length = l.length + gap l.length := by simp
        have hgg : gap (l ++ zer (gap l.length)).length = 0 := by rw [hlb]; exact gap_gap _
        have hsg : Hid (l ++ zer (gap l.length) ++ sput false (l ++ zer (gap l.length)).length body.data.toList = l ++ sput false l.length body.data.toList) := Lib.hid (by rw [hlb, List.append_assoc, sput_gap])
        obtain ⟨lb, hlbe⟩ : ∃ lb, lb = l ++ zer (gap l.length) := ⟨_, rfl⟩
        rw [← hlbe] at hT hgg hsg hlb
        rcases hgl with ⟨g1, g2⟩ | ⟨g1, g2⟩
        · have hd1 : ¬ 128 - (l.length : Int) % 128 - (gap l.length : Int) ≤ 6 := by omega
          obtain ⟨a1, c1, rfl, hlc1, hcm1, _⟩ := hT.bytes
          have hlen : lb.length ≤ 4294967302 := by omega
          have hroom : (room lb.length : Int) = 128 - (lb.length : Int) % 128 - 6 := by have := room_left lb.length; rw [hgg] at this; omega
          have HR := Lib.hid hroom
          unfold maxLen at hcm1
          clear g1 g2 hlbe hlb hk hroom
          by_cases hgt : room lb.length < body.size
          · have ht : 128 - (lb.length : Int) % 128 - 6 < (body.size : Int) := by have := HR.out; omega
            have ht0 : 0 ≤ 128 - (lb.length : Int) % 128 - 6 := by have := HR.out; omega
            go_wp2
            go_step3
            go_wp2_with (go_at_call 104; go_must (refine (left_any _ (by omega) _).mono ?_); rintro e w1 ⟨rfl, rfl⟩)
            rw [← HR.out]
            have hrl := room_le lb.length
            have hbsz : (body.extract 0 (room lb.length)).size = room lb.length := by rw [ByteArray.size_extract]; omega
            have hgt' : (room lb.length : Int) ≤ body.size := by omega
            clear ht ht0 hkk
            have hEd := hE.drew
            have hTd := hT.ext ((Ext.refl wr).drew)
            clear hE hT
            go_region_with (go_at_call 119; refine (piece_any w _ lb 2 (by decide) (body.extract 0 (room lb.length)) (by omega) (by omega) _ hEd hTd).mono ?_; rintro e w5 ⟨v5, ⟨rfl, hE5⟩, ho5⟩)
            have hJ : PutJ w w5 v5 (lb ++ pc 2 (body.extract 0 (room lb.length)).data.toList) (body.extract (room lb.length) body.size) l body := by
              have hd : (body.extract (room lb.length) body.size).size = body.size - room lb.length := by rw [ByteArray.size_extract]; omega
              obtain ⟨s1, s2, s3⟩ := putj_step (begun := false) hgg (show room lb.length < body.data.toList.length from hgt) hsg.out
              rw [← ext_take] at s1 s2
              rw [← ext_drop] at s1
              exact ⟨ho5, hE5, by rw [show (2 : Nat) = kindOf false false from rfl, s2]; exact s3, by omega, by omega, by rw [show (2 : Nat) = kindOf false false from rfl, s2]; omega, Lib.hid s1⟩
            go_wp2
            go_step3
            refine And.intro (rfl : 0 = 0) ?_
            exact ⟨v5, _, _, _, _, _, _, _, _, _, _, _, _, _, _, _, _, _, _, _, _, _, _, _, _, _, _, _, _, _, _, _, _, _, _, _, _, _, _, _, _, _, _, _, _, _, _, _, _, _, rfl, hJ⟩
          · have ht : ¬ 128 - (lb.length : Int) % 128 - 6 < (body.size : Int) := by have := HR.out; omega
            have ht0 : 0 ≤ 128 - (lb.length : Int) % 128 - 6 := by have := HR.out; omega
            have hrl := room_le lb.length
            go_wp2
            go_step3
            go_wp2_with (go_at_call 104; go_must (refine (left_any _ (by omega) _).mono ?_); rintro e w1 ⟨rfl, rfl⟩)
            refine (piece_any w _ lb 1 (by decide) body (by omega) (by omega) _ hE hT).mono ?_
            rintro e w5 ⟨v5, ⟨rfl, hE5⟩, ho5⟩
            have hend := putj_end (begun := false) hgg (show body.data.toList.length ≤ room lb.length from by have e : body.data.toList.length = body.size := rfl; omega) hsg.out
            have HEND : Hid (lb ++ pc 1 body.data.toList = l ++ sput false l.length body.data.toList) := Lib.hid hend
            clear hend
            go_wp2
            simp only [Exit.jump]
            go_ret
            exact ⟨v5, ⟨rfl, hE5⟩, by rw [← HEND.out]; exact ho5⟩
        · have hd1 : 128 - (l.length : Int) % 128 - (gap l.length : Int) ≤ 6 := by omega
          have hd2 : (128 - (l.length : Int) % 128 - (gap l.length : Int) == 0) = true := by simp; omega
          obtain ⟨a1, c1, rfl, hlc1, hcm1, _⟩ := hT.bytes
          have hlen : lb.length ≤ 4294967302 := by omega
          have hroom : (room lb.length : Int) = 128 - (lb.length : Int) % 128 - 6 := by have := room_left lb.length; rw [hgg] at this; omega
          have HR := Lib.hid hroom
          unfold maxLen at hcm1
          clear g1 g2 hlbe hlb hk hroom
          by_cases hgt : room lb.length < body.size
          · have ht : 128 - (lb.length : Int) % 128 - 6 < (body.size : Int) := by have := HR.out; omega
            have ht0 : 0 ≤ 128 - (lb.length : Int) % 128 - 6 := by have := HR.out; omega
            go_wp2
            go_step3
            go_wp2_with (go_at_call 104; go_must (refine (left_any _ (by omega) _).mono ?_); rintro e w1 ⟨rfl, rfl⟩)
            rw [← HR.out]
            have hrl := room_le lb.length
            have hbsz : (body.extract 0 (room lb.length)).size = room lb.length := by rw [ByteArray.size_extract]; omega
            have hgt' : (room lb.length : Int) ≤ body.size := by omega
            clear ht ht0 hkk
            have hEd := hE.drew
            have hTd := hT.ext ((Ext.refl wr).drew)
            clear hE hT
            go_region_with (go_at_call 119; refine (piece_any w _ lb 2 (by decide) (body.extract 0 (room lb.length)) (by omega) (by omega) _ hEd hTd).mono ?_; rintro e w5 ⟨v5, ⟨rfl, hE5⟩, ho5⟩)
            have hJ : PutJ w w5 v5 (lb ++ pc 2 (body.extract 0 (room lb.length)).data.toList) (body.extract (room lb.length) body.size) l body := by
              have hd : (body.extract (room lb.length) body.size).size = body.size - room lb.length := by rw [ByteArray.size_extract]; omega
              obtain ⟨s1, s2, s3⟩ := putj_step (begun := false) hgg (show room lb.length < body.data.toList.length from hgt) hsg.out
              rw [← ext_take] at s1 s2
              rw [← ext_drop] at s1
              exact ⟨ho5, hE5, by rw [show (2 : Nat) = kindOf false false from rfl, s2]; exact s3, by omega, by omega, by rw [show (2 : Nat) = kindOf false false from rfl, s2]; omega, Lib.hid s1⟩
            go_wp2
            go_step3
            refine And.intro (rfl : 0 = 0) ?_
            exact ⟨v5, _, _, _, _, _, _, _, _, _, _, _, _, _, _, _, _, _, _, _, _, _, _, _, _, _, _, _, _, _, _, _, _, _, _, _, _, _, _, _, _, _, _, _, _, _, _, _, _, _, rfl, hJ⟩
          · have ht : ¬ 128 - (lb.length : Int) % 128 - 6 < (body.size : Int) := by have := HR.out; omega
            have ht0 : 0 ≤ 128 - (lb.length : Int) % 128 - 6 := by have := HR.out; omega
            have hrl := room_le lb.length
            go_wp2
            go_step3
            go_wp2_with (go_at_call 104; go_must (refine (left_any _ (by omega) _).mono ?_); rintro e w1 ⟨rfl, rfl⟩)
            refine (piece_any w _ lb 1 (by decide) body (by omega) (by omega) _ hE hT).mono ?_
            rintro e w5 ⟨v5, ⟨rfl, hE5⟩, ho5⟩
            have hend := putj_end (begun := false) hgg (show body.data.toList.length ≤ room lb.length from by have e : body.data.toList.length = body.size := rfl; omega) hsg.out
            have HEND : Hid (lb ++ pc 1 body.data.toList = l ++ sput false l.length body.data.toList) := Lib.hid hend
            clear hend
            go_wp2
            simp only [Exit.jump]
            go_ret
            exact ⟨v5, ⟨rfl, hE5⟩, by rw [← HEND.out]; exact ho5⟩
  · rintro a' w' ⟨v1, lb, bd, u2, u3, u4, u5, u6, u8, u9, u10, u11, u12, u13, u14, u15, u16, u17, u18, u19, u20, u21, u22, u23, u24, u25, u26, u27, u28, u29, u30, u31, u32, u33, u34, u35, u36, u37, u38, u39, u40, u41, u42, u43, u44, u45, u46, u47, u48, u49, rfl, hJ⟩
    obtain ⟨own, ext, full, more, le, len, eq⟩ := hJ
    have hT := Tip.own own
    have hE := ext
    have hgg := gap_zero full
    have hsg := eq
    clear own ext eq
    obtain ⟨a1, c1, rfl, hlc1, hcm1, _⟩ := hT.bytes
    have hroom : (room lb.length : Int) = 128 - (lb.length : Int) % 128 - 6 := by have := room_left lb.length; rw [hgg] at this; omega
    have HR := Lib.hid hroom
    have hrp := room_pos lb.length
    unfold maxLen at hcm1
    clear hroom full
    by_cases hgt : room lb.length < bd.size
    · have ht : 128 - (lb.length : Int) % 128 - 6 < (bd.size : Int) := by have := HR.out; omega
      have ht0 : 0 ≤ 128 - (lb.length : Int) % 128 - 6 := by have := HR.out; omega
      go_wp2_with (go_at_call 104; go_must (refine (left_any _ (by omega) _).mono ?_); rintro e w1 ⟨rfl, rfl⟩)
      rw [← HR.out]
      have hrl := room_le lb.length
      have hbsz : (bd.extract 0 (room lb.length)).size = room lb.length := by rw [ByteArray.size_extract]; omega
      have hgt' : (room lb.length : Int) ≤ bd.size := by omega
      clear ht ht0
      have hEd := hE.drew
      have hTd := hT.ext ((Ext.refl w').drew)
      clear hE hT
      go_region_with (go_at_call 119; refine (piece_any w _ lb 3 (by decide) (bd.extract 0 (room lb.length)) (by omega) (by omega) _ hEd hTd).mono ?_; rintro e w5 ⟨v5, ⟨rfl, hE5⟩, ho5⟩)
      have hd : (bd.extract (room lb.length) bd.size).size = bd.size - room lb.length := by rw [ByteArray.size_extract]; omega
      have hJ : PutJ w w5 v5 (lb ++ pc 3 (bd.extract 0 (room lb.length)).data.toList) (bd.extract (room lb.length) bd.size) l body := by
        obtain ⟨s1, s2, s3⟩ := putj_step (begun := true) hgg (show room lb.length < bd.data.toList.length from hgt) hsg.out
        rw [← ext_take] at s1 s2
        rw [← ext_drop] at s1
        refine ⟨ho5, hE5, by rw [show (3 : Nat) = kindOf true false from rfl, s2]; exact s3, by omega, by omega, ?_, Lib.hid s1⟩
        have hl3 := congrArg List.length s1
        have h4 := sput_lenS false l.length body.data.toList
        have h5 := lenS_le _ l.length body.data.toList.length (Nat.le_refl _)
        have h6 : body.data.toList.length = body.size := rfl
        simp only [List.length_append, h4] at hl3
        rw [show (3 : Nat) = kindOf true false from rfl, List.length_append]
        omega
      go_wp2
      go_step3
      refine And.intro (rfl : 0 = 0) ?_
      refine ⟨⟨v5, _, _, _, _, _, _, _, _, _, _, _, _, _, _, _, _, _, _, _, _, _, _, _, _, _, _, _, _, _, _, _, _, _, _, _, _, _, _, _, _, _, _, _, _, _, _, _, _, _, rfl, hJ⟩, ?_⟩
      show (bd.extract (room lb.length) bd.size).size < bd.size
      omega
    · have ht : ¬ 128 - (lb.length : Int) % 128 - 6 < (bd.size : Int) := by have := HR.out; omega
      have ht0 : 0 ≤ 128 - (lb.length : Int) % 128 - 6 := by have := HR.out; omega
      have hrl := room_le lb.length
      go_wp2_with (go_at_call 104; go_must (refine (left_any _ (by omega) _).mono ?_); rintro e w1 ⟨rfl, rfl⟩)
      refine (piece_any w _ lb 4 (by decide) bd (by omega) (by omega) _ hE hT).mono ?_
      rintro e w5 ⟨v5, ⟨rfl, hE5⟩, ho5⟩
      have hend := putj_end (begun := true) hgg (show bd.data.toList.length ≤ room lb.length from by have e : bd.data.toList.length = bd.size := rfl; omega) hsg.out
      have HEND : Hid (lb ++ pc 4 bd.data.toList = l ++ sput false l.length body.data.toList) := Lib.hid hend
      clear hend
      go_wp2
      simp only [Exit.jump]
      go_ret
      exact ⟨v5, ⟨rfl, hE5⟩, by rw [← HEND.out]; exact ho5⟩

theorem put_any (v : Value) (l : List UInt8) (hl : l.length ≤ 4294967296) (body : ByteArray) (hb : body.size ≤ 4294967296) (w : World) (h : BytesIn w v l) (hs : ∃ ad c, v = .slice (some ad) l.length c) :
    Calls Tryz.prog 68 #[v, .string body] w fun e w' => ∃ v', (e = .returned v' ∧ Ext w w') ∧ OwnB w' w.heap.size v' (l ++ sput false l.length body.data.toList) := by
  obtain ⟨ad, c, rfl⟩ := hs
  obtain ⟨a', c', e, h1, h2, h3, h4⟩ := h
  cases e
  unfold maxLen at h2
  exact put_tip _ l hl body hb w (some ad) c h1 h2 rfl ⟨ad, rfl⟩ (.inr ⟨_, rfl, some ad, l.length, rfl, Nat.le_refl _, by unfold maxLen; omega, nofun, h4⟩)
end Go.Proofs.YtimbikbbbfpeeaaGreatDoor

/- Contracts of the library, laid at this program: each is one application of a theorem of the shelf (the text is the tool's, its numbers by name). -/
namespace Go.Proofs
open Go.Shelf
def Tryz.lays169_ren : Go.Shelf.Ren := ⟨fun | 169 => 108 | n => n, fun | 70 => 177 | 9 => 9 | 0 => 0 | 72 => 179 | 37 => 61 | 127 => 232 | 3 => 3 | 5 => 5 | n => n, fun | n => n⟩
theorem Tryz.lays169 : Go.Proofs.Lays.n169 Tryz.prog Tryz.lays169_ren := {
  mixed := by kernel_rfl
  f169 := Tryz.func108.trans (congrArg some (by kernel_rfl))
  t0 := Tryz.underlying0
  a0 := Tryz.isAgg0
  z0 := Tryz.sizeOf0
  v0 := Tryz.zeroValue0
  t3 := Tryz.underlying3
  a3 := Tryz.isAgg3
  z3 := Tryz.sizeOf3
  v3 := Tryz.zeroValue3
  t9 := Tryz.underlying9
  a9 := Tryz.isAgg9
  z9 := Tryz.sizeOf9
  v9 := Tryz.zeroValue9
  t37 := Tryz.underlying61
  a37 := Tryz.isAgg61
  z37 := Tryz.sizeOf61
  v37 := Tryz.zeroValue61
  t70 := Tryz.underlying177
  a70 := Tryz.isAgg177
  z70 := Tryz.sizeOf177
  v70 := Tryz.zeroValue177
  t72 := Tryz.underlying179
  a72 := Tryz.isAgg179
  z72 := Tryz.sizeOf179
  v72 := Tryz.zeroValue179
  t127 := Tryz.underlying232
  a127 := Tryz.isAgg232
  z127 := Tryz.sizeOf232
  v127 := Tryz.zeroValue232 }
theorem Tryz.Builder_Extra_169 : Builder.Extra Tryz.prog Tryz.lays169_ren := {
  sizeBuilder := by kernel_rfl
  liesBuilder := by kernel_rfl
  t5 := Tryz.underlying5
  a5 := Tryz.isAgg5
  z5 := Tryz.sizeOf5
  v5 := Tryz.zeroValue5
  infoByte := by kernel_rfl
  cellsByte := by kernel_rfl
  sizeByte := by kernel_rfl
  neB5 := by decide }
open Go.RowKit in
theorem Tryz.Builder_String_any_k (B b : Nat) (l : List UInt8) (w : World) (h : Lib.IsBuilderF 179 5 B b (Lib.byteCells l) w) (hBw : B ≤ w.heap.size) :
    Calls Tryz.prog 108 #[.pointer (some ⟨b, 0, none⟩)] w fun e w' => e = .returned (.string ⟨l.toArray⟩) ∧ (Lib.IsBuilderF 179 5 B b (Lib.byteCells l) w' ∧ Below B w w' ∧ Lib.OthersKept 5 (some b) w w') := Any.Builder_String_any_k Tryz.lays169 Tryz.Builder_Extra_169 B b l w h hBw
def Tryz.lays160_ren : Go.Shelf.Ren := ⟨fun | 160 => 105 | 232 => 150 | 231 => 149 | 227 => 151 | 234 => 153 | 233 => 152 | 236 => 155 | 235 => 154 | 228 => 195 | 271 => 197 | 151 => 196 | 197 => 173 | 120 => 222 | 152 => 221 | 260 => 207 | 137 => 234 | 119 => 235 | 224 => 236 | 225 => 237 | 217 => 241 | 266 => 245 | n => n, fun | 9 => 9 | 4 => 4 | 3 => 3 | 5 => 5 | 117 => 228 | 116 => 227 | 0 => 0 | 124 => 231 | 21 => 21 | 105 => 245 | 46 => 152 | 119 => 293 | 139 => 296 | 138 => 295 | n => n, fun | 3 => 0 | 4 => 1 | n => n⟩
theorem Tryz.lays160 : Go.Proofs.Lays.n160 Tryz.prog Tryz.lays160_ren := {
  mixed := by kernel_rfl
  f119 := Tryz.func235.trans (congrArg some (by kernel_rfl))
  f120 := Tryz.func222.trans (congrArg some (by kernel_rfl))
  f137 := Tryz.func234.trans (congrArg some (by kernel_rfl))
  f151 := Tryz.func196.trans (congrArg some (by kernel_rfl))
  f152 := Tryz.func221.trans (congrArg some (by kernel_rfl))
  f160 := Tryz.func105.trans (congrArg some (by kernel_rfl))
  f197 := Tryz.func173.trans (congrArg some (by kernel_rfl))
  f217 := Tryz.func241.trans (congrArg some (by kernel_rfl))
  f224 := Tryz.func236.trans (congrArg some (by kernel_rfl))
  f225 := Tryz.func237.trans (congrArg some (by kernel_rfl))
  f227 := Tryz.func151.trans (congrArg some (by kernel_rfl))
  f228 := Tryz.func195.trans (congrArg some (by kernel_rfl))
  f231 := Tryz.func149.trans (congrArg some (by kernel_rfl))
  f232 := Tryz.func150.trans (congrArg some (by kernel_rfl))
  f233 := Tryz.func152.trans (congrArg some (by kernel_rfl))
  f234 := Tryz.func153.trans (congrArg some (by kernel_rfl))
  f235 := Tryz.func154.trans (congrArg some (by kernel_rfl))
  f236 := Tryz.func155.trans (congrArg some (by kernel_rfl))
  f260 := Tryz.func207.trans (congrArg some (by kernel_rfl))
  f266 := Tryz.func245.trans (congrArg some (by kernel_rfl))
  f271 := Tryz.func197.trans (congrArg some (by kernel_rfl))
  t0 := Tryz.underlying0
  a0 := Tryz.isAgg0
  z0 := Tryz.sizeOf0
  v0 := Tryz.zeroValue0
  t3 := Tryz.underlying3
  a3 := Tryz.isAgg3
  z3 := Tryz.sizeOf3
  v3 := Tryz.zeroValue3
  t4 := Tryz.underlying4
  a4 := Tryz.isAgg4
  z4 := Tryz.sizeOf4
  v4 := Tryz.zeroValue4
  t5 := Tryz.underlying5
  a5 := Tryz.isAgg5
  z5 := Tryz.sizeOf5
  v5 := Tryz.zeroValue5
  t9 := Tryz.underlying9
  a9 := Tryz.isAgg9
  z9 := Tryz.sizeOf9
  v9 := Tryz.zeroValue9
  t21 := Tryz.underlying21
  a21 := Tryz.isAgg21
  z21 := Tryz.sizeOf21
  v21 := Tryz.zeroValue21
  t46 := Tryz.underlying152
  a46 := Tryz.isAgg152
  z46 := Tryz.sizeOf152
  v46 := Tryz.zeroValue152
  t105 := Tryz.underlying245
  a105 := Tryz.isAgg245
  z105 := Tryz.sizeOf245
  v105 := Tryz.zeroValue245
  t116 := Tryz.underlying227
  a116 := Tryz.isAgg227
  z116 := Tryz.sizeOf227
  t117 := Tryz.underlying228
  a117 := Tryz.isAgg228
  z117 := Tryz.sizeOf228
  v117 := Tryz.zeroValue228
  t119 := Tryz.underlying293
  a119 := Tryz.isAgg293
  z119 := Tryz.sizeOf293
  t124 := Tryz.underlying231
  a124 := Tryz.isAgg231
  z124 := Tryz.sizeOf231
  v124 := Tryz.zeroValue231
  t138 := Tryz.underlying295
  a138 := Tryz.isAgg295
  z138 := Tryz.sizeOf295
  v138 := Tryz.zeroValue295
  t139 := Tryz.underlying296
  a139 := Tryz.isAgg296
  z139 := Tryz.sizeOf296
  v139 := Tryz.zeroValue296
  g3 := by kernel_rfl
  g4 := by kernel_rfl }
open Go.RowKit in
theorem Tryz.strings_Trim_one (s : ByteArray) (c : UInt8) (hc : c.toNat < 128) (w : World) (hs : s.size ≤ 9223372036854775807) :
    Calls Tryz.prog 105 #[.string s, .string ⟨#[c]⟩] w fun e w' => e = .returned (.string ⟨(Lib.trimB s.data.toList c).toArray⟩) ∧ (w' = w ∨ w' = w.drew) := Any.strings_Trim_one Tryz.lays160 s c hc w hs
end Go.Proofs

/- strings.Builder: copyCheck, WriteString, String, Reset, with what is kept besides. -/
namespace Go.Proofs.YtimbikbbbfpeeaaGreatDoor
open Go Go.RowKit
attribute [local go_sem] yields yUpon
theorem sizeBuilder : (Tryz.prog.info? 179).map (·.size) = some 2 := by kernel_rfl
theorem liesBuilder : liesAt Tryz.prog Tryz.prog.depth 179 (2 / Tryz.prog.cellsOf 179) 0 179 1 = true := by kernel_rfl
theorem infoByte : (Tryz.prog.info? 5).map (fun i => (i.zero, i.size, i.bytes)) = some (some (.int .u8 0), 1, 1) := by kernel_rfl

set_option maxRecDepth 100000 in
set_option maxHeartbeats 1000000 in
theorem copyCheck_used (b : Nat) (w : World) (h0 : w.cell? ⟨b, 0, none⟩ = some (.pointer (some ⟨b, 0, none⟩))) :
    Calls Tryz.prog 156 #[.pointer (some ⟨b, 0, none⟩)] w fun e w' => e = .returned (.tuple #[]) ∧ w' = w := by
  obtain ⟨j, hj, _⟩ := Option.map_eq_some_iff.1 sizeBuilder
  go_enter Tryz.func156, Tryz.ntmps156
  go_wp2
  rw [Lib.run_neq_ptr_same w _ Tryz.underlying177 hj]
  go_wp2
  go_end0
  exact ⟨rfl, rfl⟩

set_option maxRecDepth 100000 in
set_option maxHeartbeats 1000000 in
theorem copyCheck_fresh (b : Nat) (w : World) (h0 : w.cell? ⟨b, 0, none⟩ = some (.pointer none)) (hsh : w.shape? b = some (179, 2)) (hfz : w.frozen? ⟨b, 0, none⟩ = false) :
    Calls Tryz.prog 156 #[.pointer (some ⟨b, 0, none⟩)] w fun e w' => e = .returned (.tuple #[]) ∧ w' = w.setCell ⟨b, 0, none⟩ (.pointer (some ⟨b, 0, none⟩)) := by
  obtain ⟨j, hj, hjs⟩ := Option.map_eq_some_iff.1 sizeBuilder
  go_enter Tryz.func156, Tryz.ntmps156
  go_wp2
  rw [Lib.run_to_unsafe w ⟨b, 0, none⟩ Tryz.underlying177 Tryz.underlying267 hj (by rw [hjs]; decide) hsh (Nat.zero_lt_succ 1)]
  simp only [Result.andThen]
  rw [Oper.upon_value]
  go_wp2
  rw [run_callFunc_extern Tryz.func198 (by kernel_rfl) (by kernel_rfl) (by kernel_rfl) (e := Extern.AbiNoEscape.same) (by kernel_rfl)]
  rw [Lib.run_noEscape]
  simp only [Result.andThen]
  rw [Oper.upon_value]
  go_wp2
  rw [Lib.run_from_unsafe w ⟨b, 0, none⟩ Tryz.underlying267 Tryz.underlying177 hj hsh liesBuilder]
  simp only [Result.andThen]
  rw [Oper.upon_value]
  go_wp2
  go_end0
  exact ⟨rfl, rfl⟩


abbrev BT : TypeId := 179
theorem copyCheck_k (B b : Nat) (bs : List Value) (w : World) (h : Lib.IsBuilder 179 5 B b bs w) :
    Calls Tryz.prog 156 #[.pointer (some ⟨b, 0, none⟩)] w fun e w' => e = .returned (.tuple #[]) ∧ (Lib.BuilderAt 179 5 B b (.pointer (some ⟨b, 0, none⟩)) bs w' ∧ Below B w w' ∧ Lib.OthersKept 5 (some b) w w') := by
  rcases h with h | h
  · refine (copyCheck_fresh b w h.cell0 h.shape h.frozen0).mono ?_
    rintro e w' ⟨rfl, rfl⟩
    exact ⟨rfl, h.used _, (Below.refl B w).setCell (p := ⟨b, 0, none⟩) h.1 _, Lib.OthersKept.setCell (Lib.OthersKept.refl _ _ w) ⟨b, 0, none⟩ rfl _⟩
  · refine (copyCheck_used b w h.cell0).mono ?_
    rintro e w' ⟨rfl, rfl⟩
    exact ⟨rfl, h, Below.refl B _, Lib.OthersKept.refl _ _ _⟩

theorem own_kind {w : World} {B : Nat} {e : TypeId} {size : Nat} {v : Value} {n : Nat} {xs : List Value} (h : w.ownsRow B e size v n xs) : ∀ g, v.ownBlock = some g → ∃ c fz, w.heap[g]? = some (.cells c e fz) := by
  intro g hg
  rcases h.2 with ⟨rfl, _⟩ | ⟨g', cap, cur, rfl, _, hg', _⟩
  · cases hg
  · cases hg; exact ⟨_, _, hg'⟩

set_option maxHeartbeats 2000000 in
theorem writeString_any (B b : Nat) (bs : List UInt8) (s : ByteArray) (w : World) (h : Lib.IsBuilder 179 5 B b (bcells bs) w) (hlen : bs.length + s.size ≤ 140737488355328) (hBw : B ≤ w.heap.size) :
    Calls Tryz.prog 107 #[.pointer (some ⟨b, 0, none⟩), .string s] w fun e w' => e = .returned (.tuple #[.int .i64 (s.size : Int), .nilIface]) ∧ (Lib.IsBuilder 179 5 B b (bcells (bs ++ s.data.toList)) w' ∧ Below B w w' ∧ Lib.OthersKept 5 (some b) w w') := by
  go_enter Tryz.func107, Tryz.ntmps107
  go_wp2_with fail
  refine (copyCheck_k B b _ _ h).mono ?_
  rintro e w1 ⟨rfl, h1, hb1, hk1⟩
  obtain ⟨hB, v, hbk, hown, hne⟩ := h1
  have c0 : w1.cell? ⟨b, 0, none⟩ = some (.pointer (some ⟨b, 0, none⟩)) := by rw [Lib.cell_of_heap hbk]; rfl
  have c1 : w1.cell? ⟨b, 1, none⟩ = some v := by rw [Lib.cell_of_heap hbk]; rfl
  have hown' : OwnB w1 B v bs := by unfold OwnB; simpa using hown
  have hz1 := hb1.size
  have hlt : b < w1.heap.size := (Array.getElem?_eq_some_iff.1 hbk).1
  clear h
  go_wp2_with (at_builtin; go_must (refine appBo w1 rfl (.tmp 12) (.tmp 13) rfl B (by omega) v bs s (by rfl) hown' (by rfl) hlen ?_); intro v' w2 ho2 hg2; obtain ⟨a', c', rfl, _⟩ := ho2.bytes; have hb2 : w2.heap[b]? = some (.cells #[.pointer (some ⟨b, 0, none⟩), v] 179 (0, 0)) := (by rw [hg2.block b hlt (fun e => hne e.symm)]; exact hbk); have d0 : w2.cell? ⟨b, 0, none⟩ = some (.pointer (some ⟨b, 0, none⟩)) := (by rw [Lib.cell_of_heap hb2]; rfl); have d1 : w2.cell? ⟨b, 1, none⟩ = some v := (by rw [Lib.cell_of_heap hb2]; rfl); have f1 : w2.frozen? ⟨b, 1, none⟩ = false := Lib.frozen_of_heap hb2 1; have hB2 : Below B w w2 := hb1.grown hg2 (by omega) (fun k hk => (hown.lt k hk).1); have hK2 := hk1.grown hg2 (own_kind hown); clear hown hown' hbk c0 c1)
  go_ret2
  refine ⟨rfl, .inr ?_, hB2.setCell (p := ⟨b, 1, none⟩) hB _, hK2.setCell ⟨b, 1, none⟩ rfl _⟩
  exact Lib.BuilderAt.put (T := 179) (e := 5) hB hb2 (bs' := bcells (bs ++ s.data.toList)) (by unfold OwnB at ho2; simpa using ho2) (by decide)

theorem builderF_box {w : World} {B b : Nat} {bs : List Value} (h : Lib.IsBuilderF 179 5 B b bs w) : ∃ p v, BoxAt w b #[p, v] 179 := by
  rcases h with ⟨_, v, hb, _⟩ | ⟨_, v, hb, _⟩
  · exact ⟨_, v, hb⟩
  · exact ⟨_, v, hb⟩
set_option maxHeartbeats 1000000 in
theorem reset_any (B b : Nat) (hB : B ≤ b) (p v : Value) (w : World) (hbx : BoxAt w b #[p, v] 179) :
    Calls Tryz.prog 109 #[.pointer (some ⟨b, 0, none⟩)] w fun e w' => e = .returned (.tuple #[]) ∧ (Lib.IsBuilder 179 5 B b (bcells []) w' ∧ Below B w w' ∧ Lib.OthersKept 5 (some b) w w') := by
  have c0 := hbx.cell 0
  have c1 := hbx.cell 1
  have f0 := hbx.free 0
  have f1 := hbx.free 1
  simp at c0 c1
  go_enter Tryz.func109, Tryz.ntmps109
  go_wp2
  go_end0
  refine ⟨rfl, .inl ⟨hB, .slice none 0 0, (hbx.set 0 _).set 1 _, World.ownsRow_nil _ _ _ _, nofun⟩, ((Below.refl B w).setCell (p := ⟨b, 0, none⟩) hB _).setCell (p := ⟨b, 1, none⟩) hB _, Lib.OthersKept.setCell (Lib.OthersKept.setCell (Lib.OthersKept.refl _ _ w) ⟨b, 0, none⟩ rfl _) ⟨b, 1, none⟩ rfl _⟩

/-- A row of another type is not the builder's block. -/
theorem own_not_box {w : World} {B b : Nat} {e t : TypeId} {size : Nat} {v : Value} {n : Nat} {xs : List Value} {cs : Array Value} (h : w.ownsRow B e size v n xs) (hb : BoxAt w b cs t) (he : e ≠ t) : v.ownBlock ≠ some b := by
  intro hx
  obtain ⟨c, fz, hc⟩ := own_kind h b hx
  have hb' : w.heap[b]? = some (.cells cs t (0, 0)) := hb
  rw [hb'] at hc
  injection hc with hc; injection hc with _ hc _; exact he hc.symm

/-- What is not of bytes, and not the builder, stays. -/
theorem others_own {w w' : World} {b B : Nat} {e : TypeId} {size : Nat} {v : Value} {n : Nat} {xs : List Value} (hk : Lib.OthersKept 5 (some b) w w') (he : e ≠ 5) (hb : v.ownBlock ≠ some b) (h : w.ownsRow B e size v n xs) : w'.ownsRow B e size v n xs := by
  obtain ⟨h1, h2⟩ := h
  refine ⟨h1, h2.imp id ?_⟩
  rintro ⟨g, cap, cur, rfl, h4, h5, h6⟩
  refine ⟨g, cap, cur, rfl, h4, ?_, h6⟩
  exact hk g _ h5 (by simpa [Value.ownBlock] using hb) (fun c fz hx => by cases hx; exact he rfl)
/-- The builder stays where rows of another type are written. -/
theorem builder_kept {w w' : World} {B b : Nat} {bs : List Value} {row : Option Nat} {e : TypeId} (hg : w.grownBy w' row) (hrow : ∀ g, row = some g → ∃ c fz, w.heap[g]? = some (.cells c e fz)) (h1 : e ≠ 5) (h2 : e ≠ 179)
    (h : Lib.IsBuilder 179 5 B b bs w) : Lib.IsBuilder 179 5 B b bs w' := by
  have key : ∀ p, Lib.BuilderAt 179 5 B b p bs w → Lib.BuilderAt 179 5 B b p bs w' := by
    rintro p ⟨hB, v, hb, hown, hne⟩
    refine ⟨hB, v, ?_, hown.kept hg ?_, hne⟩
    · rw [hg.block b (Array.getElem?_eq_some_iff.1 hb).1 ?_]
      · exact hb
      · intro hx
        obtain ⟨c, fz, hc⟩ := hrow b hx.symm
        rw [hb] at hc
        injection hc with hc; injection hc with _ hc _; exact h2 hc.symm
    · by_cases hv : v.ownBlock = none
      · exact .inl hv
      · right
        intro hx
        obtain ⟨g, hg'⟩ := Option.ne_none_iff_exists'.1 hv
        rw [hg'] at hx
        obtain ⟨c, fz, hc⟩ := hrow g hx.symm
        obtain ⟨c2, fz2, hc2⟩ := own_kind hown g hg'
        rw [hc] at hc2
        injection hc2 with hc2; injection hc2 with _ hc2 _; exact h1 hc2
  exact h.imp (key _) (key _)
/-- .. and where memory grows. -/
theorem builder_ext {w w' : World} {B b : Nat} {bs : List Value} (hE : Ext w w') (h : Lib.IsBuilder 179 5 B b bs w) : Lib.IsBuilder 179 5 B b bs w' := by
  have key : ∀ p, Lib.BuilderAt 179 5 B b p bs w → Lib.BuilderAt 179 5 B b p bs w' := by
    rintro p ⟨hB, v, hb, hown, hne⟩
    exact ⟨hB, v, by rw [hE.block b (Array.getElem?_eq_some_iff.1 hb).1]; exact hb, ownsRow_ext hown hE, hne⟩
  exact h.imp (key _) (key _)

/-! ### A text of noughts -/
theorem trim_nought (l : List UInt8) : Lib.trimB l 0 = [] ↔ l = List.replicate l.length 0 := by
  unfold Lib.trimB Lib.trimLeftB Lib.trimRightB
  constructor
  · intro h
    have dw : ∀ m : List UInt8, m.dropWhile (· == 0) = [] → ∀ x ∈ m, (x == 0) = true := by
      intro m
      induction m with
      | nil => simp
      | cons a m ih =>
        intro hm x hx
        rw [List.dropWhile_cons] at hm
        split at hm
        · rename_i ha
          rcases List.mem_cons.1 hx with rfl | hx
          · exact ha
          · exact ih hm x hx
        · cases hm
    replace h := dw _ h
    have h2 : l.reverse.dropWhile (· == 0) = [] := by
      cases hd : l.reverse.dropWhile (· == 0) with
      | nil => rfl
      | cons x t =>
        have h3 := List.head_dropWhile_not (· == 0) (l := l.reverse) (by rw [hd]; simp)
        rw [hd] at h
        have h4 := h x (by simp)
        simp only [hd, List.head_cons] at h3
        rw [h4] at h3; cases h3
    replace h2 := dw _ h2
    rw [List.eq_replicate_iff]
    exact ⟨rfl, fun b hb => by simpa using h2 b (by simpa using hb)⟩
  · intro h
    rw [h]
    simp
end Go.Proofs.YtimbikbbbfpeeaaGreatDoor
