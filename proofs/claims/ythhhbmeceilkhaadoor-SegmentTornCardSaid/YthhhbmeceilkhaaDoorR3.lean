/- 'append(b, s...)' of a text's bytes, b a row of the call's own or a slice without spare room. -/
import Derived.Test.YthhhbmeceilkhaaDoorR2
import Derived.Lib.AppendStr
import Derived.Test.YthhhbmeceilkhaaDoorR1
import Derived.WalkMore
import Derived.ScopeJumps
import Derived.Deep.RegionWith
import Derived.Shelf.Strings.Builder1
import Derived.Shelf.Strings.Trim
import Derived.Shelf.Small.Utf8
import Derived.Shelf.Small.Strs
import Derived.Shelf.Strings.BuilderF
import Derived.Shelf.Strings.BuilderK
import Derived.Shelf.Unicode.Decode
import Derived.Test.YthhhbmeceilkhaaDoorProg
set_option linter.unusedSimpArgs false
set_option linter.unusedVariables false
namespace Go.Proofs.YthhhbmeceilkhaaDoor
open Go Go.RowKit

theorem strCells_bcells (s : ByteArray) : Lib.strCells s = bcells s.data.toList := rfl
theorem info_b8s : Tryd.prog.info? 5 = some (Tryd.prog.info? 5).get! ∧ (Tryd.prog.info? 5).get!.zero = some (.int .u8 0) ∧ (Tryd.prog.info? 5).get!.size = 1 ∧ (Tryd.prog.info? 5).get!.bytes = 1 := ⟨by kernel_rfl, by kernel_rfl, by kernel_rfl, by kernel_rfl⟩

/-- Onto a row of one's own, whatever the text. -/
theorem appBo {ops : Array Oper} {rest : List Oper} {o : Oper} {a : Act} {Q : Exit → Act → World → Prop} (w : World) (hg : o.guard = none) (s x : Operand)
    (hop : o.op = Op.call { callee := Callee.builtin Builtin.append, args := #[s, x], argTypes := #[22, 9] })
    (B : Nat) (hB : B ≤ w.heap.size) (v : Value) (l : List UInt8) (news : ByteArray) (hs : a.eval s = v) (hT : OwnB w B v l) (hx : a.eval x = .string news) (hb : l.length + news.size ≤ 140737488355328)
    (hK : ∀ v' w', OwnB w' B v' (l ++ news.data.toList) → w.grownBy w' v.ownBlock → wpList Tryd.prog ops Q rest (a.put o.dst v') w') : wpList Tryd.prog ops Q (o :: rest) a w := by
  refine Lib.wpList_append_own_string w hg s x 22 9 hop B 5 _ und_bytes und_string info_b8s.1 info_b8s.2.1 info_b8s.2.2.1 info_b8s.2.2.2 v l.length (bcells l) hs hT news hx (by unfold maxLen; omega) hb hB ?_
  intro v' w' h1 h2 _
  refine hK v' w' ?_ h2
  unfold OwnB
  rw [strCells_bcells, ← bcells_append] at h1
  have e : (l ++ news.data.toList).length = l.length + news.size := by rw [List.length_append]; rfl
  rw [e]
  exact h1

/-- Onto a slice without spare room, a text that is not empty: a new row. -/
theorem appBs {ops : Array Oper} {rest : List Oper} {o : Oper} {a : Act} {Q : Exit → Act → World → Prop} (w : World) (hg : o.guard = none) (s x : Operand)
    (hop : o.op = Op.call { callee := Callee.builtin Builtin.append, args := #[s, x], argTypes := #[22, 9] })
    (w0 : World) (hE : Ext w0 w) (v : Value) (l : List UInt8) (news : ByteArray) (hs : a.eval s = v) (hT : Tip w w0.heap.size v l) (hx : a.eval x = .string news) (hm : 0 < news.size) (hb : l.length + news.size ≤ 140737488355328)
    (hK : ∀ v' w', OwnB w' w0.heap.size v' (l ++ news.data.toList) → Ext w0 w' → wpList Tryd.prog ops Q rest (a.put o.dst v') w') : wpList Tryd.prog ops Q (o :: rest) a w := by
  have own : ∀ v, a.eval s = v → OwnB w w0.heap.size v l → wpList Tryd.prog ops Q (o :: rest) a w := fun v hs hown =>
    appBo w hg s x hop w0.heap.size hE.le v l news hs hown hx hb fun v' w' h1 h2 => hK v' w' h1 (hE.grown h2 fun k hk => (hown.lt k hk).1)
  rcases hT with hown | ⟨ao, rfl, hin⟩
  · exact own v hs hown
  · obtain ⟨a', c', he, hnc, hcm, hz, hcells⟩ := hin
    cases he
    cases ao with
    | none =>
      have h0 := hz rfl
      have hl : l = [] := List.eq_nil_of_length_eq_zero h0
      subst hl
      exact own _ hs (World.ownsRow_nil _ _ _ _)
    | some ad =>
      have hlen : (bcells l).length = l.length * (Tryd.prog.info? 5).get!.size := by rw [info_b8s.2.2.1]; simp
      have h1 := Lib.run_append_grow_string (P := Tryd.prog) w 22 9 o.type 5 _ _ und_bytes und_string info_b8s.1 info_b8s.2.1 ad l.length l.length (bcells l) hlen (fun j u hj => by
          obtain ⟨b', o', e', hc'⟩ := hcells j u hj
          cases e'
          rw [Addr.add_lit]
          exact hc') news (by omega) (by omega) (by rw [info_b8s.2.2.2]; exact growslice_fits (by omega) (by omega))
      refine wpList_plain hg fun K hK' => ?_
      unfold Oper.wp execOp
      simp only [hop, resolve, invoke, builtin, Sem.run_bind, Sem.run_pure, Result.andThen_ok, List.map_toArray, List.map_cons, List.map_nil, hs, hx, h1]
      refine hK' _ _ (hK _ _ ?_ ?_)
      · have e : (l ++ news.data.toList).length = l.length + news.size := by rw [List.length_append]; rfl
        have hge := grownCap_ge w (l.length + news.size) l.length 5
        have hcm2 : grownCap w (l.length + news.size) l.length 5 ≤ maxLen := grownCap_le_maxLen w (l.length + news.size) l.length 5 (by unfold maxLen; omega)
        unfold OwnB
        rw [e]
        refine ⟨by rw [bcells_length, e, Nat.mul_one], .inr ⟨w.heap.size, _, _, rfl, hE.le, heap_alloc_new w.drew _, hge, hcm2, ?_, ?_⟩⟩
        · have hz1 : (Value.int IntKind.u8 0).cells.size = 1 := rfl
          have e2 : (Lib.strCells news).length = news.size := Lib.strCells_length news
          simp only [Array.size_append, List.size_toArray, size_zeroCells, hz1, bcells_length, e2]
          omega
        · simp only [Array.toList_append, List.append_assoc]
          rw [← List.append_assoc, strCells_bcells, ← bcells_append]
          have e3 : (l.length + news.size) * 1 = (bcells (l ++ news.data.toList)).length := by rw [bcells_length, e, Nat.mul_one]
          rw [e3]
          exact List.take_left
      · exact hE.drew.alloc _
end Go.Proofs.YthhhbmeceilkhaaDoor

/- Package segment: left, piece, Put. -/
namespace Go.Proofs.YthhhbmeceilkhaaDoor
open Go Go.RowKit
attribute [local go_sem] yields yUpon

set_option maxHeartbeats 400000 in
theorem left_any (n : Nat) (hn : n ≤ 4611686018427387904) (w : World) :
    Calls Tryd.prog 15 #[.int .i64 (n : Int)] w fun e w' => e = .returned (.int .i64 (128 - (n : Int) % 128)) ∧ w = w' := by
  go_enter Tryd.func15, Tryd.ntmps15
  go_wp2
  go_ret
  exact ⟨rfl, rfl⟩

theorem two_bytes (k n : Nat) (hk : k < 256) (hn : n < 256) (w : World) : BytesIn (w.alloc (.cells #[Value.int .u8 (k : Int), Value.int .u8 (n : Int)] 5)) (.slice (some ⟨w.heap.size, 0, none⟩) 2 2) [UInt8.ofNat k, UInt8.ofNat n] := by
  have h := SliceIn.made w #[Value.int .u8 (k : Int), Value.int .u8 (n : Int)] 5 2 (by decide)
  have e : (#[Value.int .u8 (k : Int), Value.int .u8 (n : Int)] : Array Value).toList = bcells [UInt8.ofNat k, UInt8.ofNat n] := by
    simp only [bcells, List.map_cons, List.map_nil, UInt8.toNat_ofNat', Nat.reducePow, Nat.mod_eq_of_lt hk, Nat.mod_eq_of_lt hn]
  rw [e] at h
  exact h

set_option maxHeartbeats 2000000 in
theorem piece_any (W : World) (v : Value) (l : List UInt8) (kind : Nat) (hk : kind < 256) (body : ByteArray) (hb : body.size < 256) (hl : l.length ≤ 70368744177664) (w : World) (hE : Ext W w) (hT : Tip w W.heap.size v l) :
    Calls Tryd.prog 23 #[v, .int .i64 (kind : Int), .string body] w fun e w' => ∃ v', (e = .returned v' ∧ Ext W w') ∧ OwnB w' W.heap.size v' (l ++ pc kind body.data.toList) := by
  have hbs : (body.size : Int) < 256 := by omega
  go_enter Tryd.func23, Tryd.ntmps23
  go_wp2
  rw [run_convert_bytesIn _ 22 9 5 und_bytes und_u8 und_string (two_bytes kind body.size hk hb w)]
  simp only [Result.andThen]
  rw [Oper.upon_value]
  obtain ⟨two, htwo⟩ : ∃ two, two = str [UInt8.ofNat kind, UInt8.ofNat body.size] := ⟨_, rfl⟩
  have h2 : two.size = 2 := by rw [htwo]; rfl
  have h2d : two.data.toList = [UInt8.ofNat kind, UInt8.ofNat body.size] := by rw [htwo]; rfl
  have H2 := Lib.hid h2d
  rw [← htwo]
  clear htwo h2d
  go_wp2_with (at_builtin; go_must (refine appBs _ rfl (.tmp 15) (.tmp 16) rfl W (hE.alloc _) v l two rfl (hT.ext ((Ext.refl w).alloc _)) (by rfl) (by omega) (by omega) ?_); intro v1 w1 ho1 hE1)
  clear hT hE
  have hsz : (two ++ body).size = 2 + body.size := by rw [ByteArray.size_append, h2]
  have hdt : Hid ((two ++ body).data.toList = UInt8.ofNat kind :: UInt8.ofNat body.size :: body.data.toList) := Lib.hid (by rw [ByteArray.data_append, Array.toList_append, H2.out]; rfl)
  refine (tof_any (two ++ body) (by unfold maxLen; omega) _).mono ?_
  rintro e w2 ⟨rfl, hE2⟩
  rw [hdt.out]
  have ho2 := ho1.ext hE2
  have hE2 := hE1.trans hE2
  clear ho1 hE1 hsz hdt
  have htl := tok_lt (UInt8.ofNat kind :: UInt8.ofNat body.size :: body.data.toList) 1 (by decide)
  obtain ⟨T, hT⟩ : ∃ T, T = tok 1 (UInt8.ofNat kind :: UInt8.ofNat body.size :: body.data.toList) := ⟨_, rfl⟩
  rw [← hT] at htl ⊢
  have HT := Lib.hid hT
  clear hT
  go_wp2_with fail
  refine (tbytes_any T htl _).mono ?_
  rintro e w3 ⟨rfl, hE3⟩
  have ho3 := ho2.ext hE3
  have hE3 := hE2.trans hE3
  clear ho2 hE2
  have hll : (l ++ two.data.toList).length ≤ 70368744177667 := by rw [H2.out]; simp; omega
  go_wp2_with (first
    | ((guard_target =~ wpList _ _ _ (Oper.mk (some 23) _ _ _ _ _ :: _) _ _); go_must (refine appBo w3 rfl (.tmp 17) (.tmp 22) rfl W.heap.size hE3.le v1 _ (str (tok4 T)) rfl ho3 (by rfl) (by simp; omega) ?_); intro v4 w4 ho4 hg4; have hE4 := hE3.grown hg4 (fun k hk => (ho3.lt k hk).1); clear ho3 hE3 hg4)
    | ((guard_target =~ wpList _ _ _ (Oper.mk (some 25) _ _ _ _ _ :: _) _ _); go_must (refine appBo w4 rfl (.tmp 23) (.tmp 24) rfl W.heap.size hE4.le v4 _ body rfl ho4 (by rfl) (by simp; omega) ?_); intro v5 w5 ho5 hg5; have hE5 := hE4.grown hg5 (fun k hk => (ho4.lt k hk).1); clear ho4 hE4 hg5))
  go_ret
  refine ⟨_, ⟨rfl, hE5⟩, ?_⟩
  have e : l ++ two.data.toList ++ (str (tok4 T)).data.toList ++ body.data.toList = l ++ pc kind body.data.toList := by
    rw [H2.out, HT.out]
    simp [pc, str]
  rw [e] at ho5
  exact ho5

/-- What holds at each jump back. -/
structure PutJ (w w' : World) (v1 : Value) (lb : List UInt8) (bd : ByteArray) (l : List UInt8) (body : ByteArray) : Prop where
  own : OwnB w' w.heap.size v1 lb
  ext : Ext w w'
  full : lb.length % 128 = 0
  more : 0 < bd.size
  le : bd.size ≤ body.size
  len : lb.length ≤ 40000000000
  eq : Hid (lb ++ sput true lb.length bd.data.toList = l ++ sput false l.length body.data.toList)
theorem putj_step {begun : Bool} {lb bd target : List UInt8} (hg : gap lb.length = 0) (hgt : room lb.length < bd.length) (eq : lb ++ sput begun lb.length bd = target) :
    (lb ++ pc (kindOf begun false) (bd.take (room lb.length))) ++ sput true (lb ++ pc (kindOf begun false) (bd.take (room lb.length))).length (bd.drop (room lb.length)) = target ∧
    (lb ++ pc (kindOf begun false) (bd.take (room lb.length))).length = lb.length + (6 + room lb.length) ∧ (lb.length + (6 + room lb.length)) % 128 = 0 := by
  have hl : (lb ++ pc (kindOf begun false) (bd.take (room lb.length))).length = lb.length + (6 + room lb.length) := by simp; omega
  have hf := gap_full lb.length
  rw [hg] at hf
  refine ⟨?_, hl, by simpa using hf⟩
  rw [hl, ← eq, sput_more (b := begun) (n := lb.length) (body := bd) (by omega), hg]
  simp [zer]
theorem putj_end {begun : Bool} {lb bd target : List UInt8} (hg : gap lb.length = 0) (hle : bd.length ≤ room lb.length) (eq : lb ++ sput begun lb.length bd = target) : lb ++ pc (kindOf begun true) bd = target := by
  rw [← eq, sput_last (b := begun) hle, hg]
  simp [zer]
theorem ext_take (s : ByteArray) (n : Nat) : (s.extract 0 n).data.toList = s.data.toList.take n := by
  rw [ByteArray.data_extract]; simp
theorem ext_drop (s : ByteArray) (n : Nat) : (s.extract n s.size).data.toList = s.data.toList.drop n := by
  have e : s.size = s.data.toList.length := rfl
  rw [ByteArray.data_extract, Array.toList_extract, List.extract_eq_take_drop, e, List.take_of_length_le (by simp)]
def strSize : Value → Nat
  | .string s => s.size
  | _ => 0

set_option maxRecDepth 100000 in
set_option maxHeartbeats 8000000 in
theorem put_tip (v : Value) (l : List UInt8) (hl : l.length ≤ 4294967296) (body : ByteArray) (hb : body.size ≤ 4294967296) (w : World) (ao : Option Addr) (c : Nat) (hc : l.length ≤ c) (hcm : c ≤ 9223372036854775807) (hv : v = .slice ao l.length c) (hA : ∃ ad, ao = some ad) (h : Tip w w.heap.size (.slice ao l.length l.length) l) :
    Calls Tryd.prog 11 #[v, .string body] w fun e w' => ∃ v', (e = .returned v' ∧ Ext w w') ∧ OwnB w' w.heap.size v' (l ++ sput false l.length body.data.toList) := by
  obtain ⟨ad, rfl⟩ := hA
  subst hv
  go_enter Tryd.func11, Tryd.ntmps11
  go_wp2
  refine wp_scope_jumps 0 (fun a' w' => ∃ (v1 : Value) (lb : List UInt8) (bd : ByteArray) (u2 u3 u4 u5 u6 u8 u9 u10 u11 u12 u13 u14 u15 u16 u17 u18 u19 u20 u21 u22 u23 u24 u25 u26 u27 u28 u29 u30 u31 u32 u33 u34 u35 u36 u37 u38 u39 u40 u41 u42 u43 u44 u45 u46 u47 u48 u49 : Value), a' = { tmps := #[v1, .string bd, u2, u3, u4, u5, u6, .int .i64 4, u8, u9, u10, u11, u12, u13, u14, u15, u16, u17, u18, u19, u20, u21, u22, u23, u24, u25, u26, u27, u28, u29, u30, u31, u32, u33, u34, u35, u36, u37, u38, u39, u40, u41, u42, u43, u44, u45, u46, u47, u48, u49], defers := [] } ∧ PutJ w w' v1 lb bd l body) (fun a' _ => strSize (a'.tmps.getD 1 undef)) rfl ?_ ?_
  · go_wp2_with (go_at_call 15; go_must (refine (left_any _ (by omega) _).mono ?_); rintro e w1 ⟨rfl, rfl⟩)
    have hgl : gap l.length = 0 ∧ 6 < 128 - l.length % 128 ∨ gap l.length = 128 - l.length % 128 ∧ 128 - l.length % 128 ≤ 6 := by unfold gap; split <;> omega
    have HT0 := Lib.hid h
    clear h
    go_loopw [0, 5] (fun b n wr => ∃ k : Nat, k ≤ gap l.length ∧ n = .int .i64 (128 - (l.length : Int) % 128 - k) ∧ Tip wr w.heap.size b (l ++ zer k) ∧ Ext w wr) (fun _ n _ => (intOf n).toNat)
    case atStart => exact ⟨0, Nat.zero_le _, by simp, by simpa [zer] using HT0.out, Ext.refl w⟩
    case round =>
      obtain ⟨k, hk, rfl, hT, hE⟩ := hrel
      by_cases hkk : k < gap l.length
      · have hg6 : gap l.length = 128 - l.length % 128 ∧ 128 - l.length % 128 ≤ 6 := by omega
        have hd1 : 128 - (l.length : Int) % 128 - k ≤ 6 := by omega
        have hd0 : 1 ≤ 128 - (l.length : Int) % 128 - k := by omega
        have hd2 : (128 - (l.length : Int) % 128 - k == 0) = false := by simp; omega
        clear hgl
        have HZ : Hid (l ++ zer k ++ [UInt8.ofNat (0 : Int).toNat] = l ++ zer (k + 1)) := Lib.hid (by simp [zer, List.replicate_succ'])
        have hlk : (l ++ zer k).length ≤ 4294967302 := by simp; omega
        go_wp2_with (at_builtin; go_must (refine appB wr rfl (.tmp 24) (.tmp 25) rfl w hE _ (l ++ zer k) _ [UInt8.ofNat (0 : Int).toNat] (cs1 (by omega) (by omega)) (by decide) (by rfl) hT 1 (by rfl) rfl (by simp; omega) ?_); intro v2 w2 ho2 hE2)
        rw [HZ.out] at ho2
        clear hT hE hd2
        go_wp2
        go_roundw
        case rel => exact ⟨k + 1, by omega, by go_num, Tip.own ho2, hE2⟩
        case measure => simp [intOf]; omega
      · obtain rfl : k = gap l.length := by omega
        have hlb : (l ++ zer (gap l.length)).length = l.length + gap l.length := by simp
        have hgg : gap (l ++ zer (gap l.length)).length = 0 := by rw [hlb]; exact gap_gap _
        have hsg : Hid (l ++ zer (gap l.length) ++ sput false (l ++ zer (gap l.length)).length body.data.toList = l ++ sput false l.length body.data.toList) := Lib.hid (by rw [hlb, List.append_assoc, sput_gap])
        obtain ⟨lb, hlbe⟩ : ∃ lb, lb = l ++ zer (gap l.length) := ⟨_, rfl⟩
        rw [← hlbe] at hT hgg hsg hlb
        rcases hgl with ⟨g1, g2⟩ | ⟨g1, g2⟩
        · have hd1 : ¬ 128 - (l.length : Int) % 128 - (gap l.length : Int) ≤ 6 := by omega
          obtain ⟨a1, c1, rfl, hlc1, hcm1, _⟩ := hT.bytes
          have hlen : lb.length ≤ 4294967302 := by omega
          have hroom : (room lb.length : Int) = 128 - (lb.length : Int) % 128 - 6 := by have := room_left lb.length; rw [hgg] at this; omega
          have HR := Lib.hid hroom
          unfold maxLen at hcm1
          clear g1 g2 hlbe hlb hk hroom
          by_cases hgt : room lb.length < body.size
          · have ht : 128 - (lb.length : Int) % 128 - 6 < (body.size : Int) := by have := HR.out; omega
            have ht0 : 0 ≤ 128 - (lb.length : Int) % 128 - 6 := by have := HR.out; omega
            go_wp2
            go_step3
            go_wp2_with (go_at_call 15; go_must (refine (left_any _ (by omega) _).mono ?_); rintro e w1 ⟨rfl, rfl⟩)
            rw [← HR.out]
            have hrl := room_le lb.length
            have hbsz : (body.extract 0 (room lb.length)).size = room lb.length := by rw [ByteArray.size_extract]; omega
            have hgt' : (room lb.length : Int) ≤ body.size := by omega
            clear ht ht0 hkk
            have hEd := hE.drew
            have hTd := hT.ext ((Ext.refl wr).drew)
            clear hE hT
            go_region_with (go_at_call 23; refine (piece_any w _ lb 2 (by decide) (body.extract 0 (room lb.length)) (by omega) (by omega) _ hEd hTd).mono ?_; rintro e w5 ⟨v5, ⟨rfl, hE5⟩, ho5⟩)
            have hJ : PutJ w w5 v5 (lb ++ pc 2 (body.extract 0 (room lb.length)).data.toList) (body.extract (room lb.length) body.size) l body := by
              have hd : (body.extract (room lb.length) body.size).size = body.size - room lb.length := by rw [ByteArray.size_extract]; omega
              obtain ⟨s1, s2, s3⟩ := putj_step (begun := false) hgg (show room lb.length < body.data.toList.length from hgt) hsg.out
              rw [← ext_take] at s1 s2
              rw [← ext_drop] at s1
              exact ⟨ho5, hE5, by rw [show (2 : Nat) = kindOf false false from rfl, s2]; exact s3, by omega, by omega, by rw [show (2 : Nat) = kindOf false false from rfl, s2]; omega, Lib.hid s1⟩
            go_wp2
            go_step3
            refine And.intro (rfl : 0 = 0) ?_
            exact ⟨v5, _, _, _, _, _, _, _, _, _, _, _, _, _, _, _, _, _, _, _, _, _, _, _, _, _, _, _, _, _, _, _, _, _, _, _, _, _, _, _, _, _, _, _, _, _, _, _, _, _, rfl, hJ⟩
          · have ht : ¬ 128 - (lb.length : Int) % 128 - 6 < (body.size : Int) := by have := HR.out; omega
            have ht0 : 0 ≤ 128 - (lb.length : Int) % 128 - 6 := by have := HR.out; omega
            have hrl := room_le lb.length
            go_wp2
            go_step3
            go_wp2_with (go_at_call 15; go_must (refine (left_any _ (by omega) _).mono ?_); rintro e w1 ⟨rfl, rfl⟩)
            refine (piece_any w _ lb 1 (by decide) body (by omega) (by omega) _ hE hT).mono ?_
            rintro e w5 ⟨v5, ⟨rfl, hE5⟩, ho5⟩
            have hend := putj_end (begun := false) hgg (show body.data.toList.length ≤ room lb.length from by have e : body.data.toList.length = body.size := rfl; omega) hsg.out
            have HEND : Hid (lb ++ pc 1 body.data.toList = l ++ sput false l.length body.data.toList) := Lib.hid hend
            clear hend
            go_wp2
            simp only [Exit.jump]
            go_ret
            exact ⟨v5, ⟨rfl, hE5⟩, by rw [← HEND.out]; exact ho5⟩
        · have hd1 : 128 - (l.length : Int) % 128 - (gap l.length : Int) ≤ 6 := by omega
          have hd2 : (128 - (l.length : Int) % 128 - (gap l.length : Int) == 0) = true := by simp; omega
          obtain ⟨a1, c1, rfl, hlc1, hcm1, _⟩ := hT.bytes
          have hlen : lb.length ≤ 4294967302 := by omega
          have hroom : (room lb.length : Int) = 128 - (lb.length : Int) % 128 - 6 := by have := room_left lb.length; rw [hgg] at this; omega
          have HR := Lib.hid hroom
          unfold maxLen at hcm1
          clear g1 g2 hlbe hlb hk hroom
          by_cases hgt : room lb.length < body.size
          · have ht : 128 - (lb.length : Int) % 128 - 6 < (body.size : Int) := by have := HR.out; omega
            have ht0 : 0 ≤ 128 - (lb.length : Int) % 128 - 6 := by have := HR.out; omega
            go_wp2
            go_step3
            go_wp2_with (go_at_call 15; go_must (refine (left_any _ (by omega) _).mono ?_); rintro e w1 ⟨rfl, rfl⟩)
            rw [← HR.out]
            have hrl := room_le lb.length
            have hbsz : (body.extract 0 (room lb.length)).size = room lb.length := by rw [ByteArray.size_extract]; omega
            have hgt' : (room lb.length : Int) ≤ body.size := by omega
            clear ht ht0 hkk
            have hEd := hE.drew
            have hTd := hT.ext ((Ext.refl wr).drew)
            clear hE hT
            go_region_with (go_at_call 23; refine (piece_any w _ lb 2 (by decide) (body.extract 0 (room lb.length)) (by omega) (by omega) _ hEd hTd).mono ?_; rintro e w5 ⟨v5, ⟨rfl, hE5⟩, ho5⟩)
            have hJ : PutJ w w5 v5 (lb ++ pc 2 (body.extract 0 (room lb.length)).data.toList) (body.extract (room lb.length) body.size) l body := by
              have hd : (body.extract (room lb.length) body.size).size = body.size - room lb.length := by rw [ByteArray.size_extract]; omega
              obtain ⟨s1, s2, s3⟩ := putj_step (begun := false) hgg (show room lb.length < body.data.toList.length from hgt) hsg.out
              rw [← ext_take] at s1 s2
              rw [← ext_drop] at s1
              exact ⟨ho5, hE5, by rw [show (2 : Nat) = kindOf false false from rfl, s2]; exact s3, by omega, by omega, by rw [show (2 : Nat) = kindOf false false from rfl, s2]; omega, Lib.hid s1⟩
            go_wp2
            go_step3
            refine And.intro (rfl : 0 = 0) ?_
            exact ⟨v5, _, _, _, _, _, _, _, _, _, _, _, _, _, _, _, _, _, _, _, _, _, _, _, _, _, _, _, _, _, _, _, _, _, _, _, _, _, _, _, _, _, _, _, _, _, _, _, _, _, rfl, hJ⟩
          · have ht : ¬ 128 - (lb.length : Int) % 128 - 6 < (body.size : Int) := by have := HR.out; omega
            have ht0 : 0 ≤ 128 - (lb.length : Int) % 128 - 6 := by have := HR.out; omega
            have hrl := room_le lb.length
            go_wp2
            go_step3
            go_wp2_with (go_at_call 15; go_must (refine (left_any _ (by omega) _).mono ?_); rintro e w1 ⟨rfl, rfl⟩)
            refine (piece_any w _ lb 1 (by decide) body (by omega) (by omega) _ hE hT).mono ?_
            rintro e w5 ⟨v5, ⟨rfl, hE5⟩, ho5⟩
            have hend := putj_end (begun := false) hgg (show body.data.toList.length ≤ room lb.length from by have e : body.data.toList.length = body.size := rfl; omega) hsg.out
            have HEND : Hid (lb ++ pc 1 body.data.toList = l ++ sput false l.length body.data.toList) := Lib.hid hend
            clear hend
            go_wp2
            simp only [Exit.jump]
            go_ret
            exact ⟨v5, ⟨rfl, hE5⟩, by rw [← HEND.out]; exact ho5⟩
  · rintro a' w' ⟨v1, lb, bd, u2, u3, u4, u5, u6, u8, u9, u10, u11, u12, u13, u14, u15, u16, u17, u18, u19, u20, u21, u22, u23, u24, u25, u26, u27, u28, u29, u30, u31, u32, u33, u34, u35, u36, u37, u38, u39, u40, u41, u42, u43, u44, u45, u46, u47, u48, u49, rfl, hJ⟩
    obtain ⟨own, ext, full, more, le, len, eq⟩ := hJ
    have hT := Tip.own own
    have hE := ext
    have hgg := gap_zero full
    have hsg := eq
    clear own ext eq
    obtain ⟨a1, c1, rfl, hlc1, hcm1, _⟩ := hT.bytes
    have hroom : (room lb.length : Int) = 128 - (lb.length : Int) % 128 - 6 := by have := room_left lb.length; rw [hgg] at this; omega
    have HR := Lib.hid hroom
    have hrp := room_pos lb.length
    unfold maxLen at hcm1
    clear hroom full
    by_cases hgt : room lb.length < bd.size
    · have ht : 128 - (lb.length : Int) % 128 - 6 < (bd.size : Int) := by have := HR.out; omega
      have ht0 : 0 ≤ 128 - (lb.length : Int) % 128 - 6 := by have := HR.out; omega
      go_wp2_with (go_at_call 15; go_must (refine (left_any _ (by omega) _).mono ?_); rintro e w1 ⟨rfl, rfl⟩)
      rw [← HR.out]
      have hrl := room_le lb.length
      have hbsz : (bd.extract 0 (room lb.length)).size = room lb.length := by rw [ByteArray.size_extract]; omega
      have hgt' : (room lb.length : Int) ≤ bd.size := by omega
      clear ht ht0
      have hEd := hE.drew
      have hTd := hT.ext ((Ext.refl w').drew)
      clear hE hT
      go_region_with (go_at_call 23; refine (piece_any w _ lb 3 (by decide) (bd.extract 0 (room lb.length)) (by omega) (by omega) _ hEd hTd).mono ?_; rintro e w5 ⟨v5, ⟨rfl, hE5⟩, ho5⟩)
      have hd : (bd.extract (room lb.length) bd.size).size = bd.size - room lb.length := by rw [ByteArray.size_extract]; omega
      have hJ : PutJ w w5 v5 (lb ++ pc 3 (bd.extract 0 (room lb.length)).data.toList) (bd.extract (room lb.length) bd.size) l body := by
        obtain ⟨s1, s2, s3⟩ := putj_step (begun := true) hgg (show room lb.length < bd.data.toList.length from hgt) hsg.out
        rw [← ext_take] at s1 s2
        rw [← ext_drop] at s1
        refine ⟨ho5, hE5, by rw [show (3 : Nat) = kindOf true false from rfl, s2]; exact s3, by omega, by omega, ?_, Lib.hid s1⟩
        have hl3 := congrArg List.length s1
        have h4 := sput_lenS false l.length body.data.toList
        have h5 := lenS_le _ l.length body.data.toList.length (Nat.le_refl _)
        have h6 : body.data.toList.length = body.size := rfl
        simp only [List.length_append, h4] at hl3
        rw [show (3 : Nat) = kindOf true false from rfl, List.length_append]
        omega
      go_wp2
      go_step3
      refine And.intro (rfl : 0 = 0) ?_
      refine ⟨⟨v5, _, _, _, _, _, _, _, _, _, _, _, _, _, _, _, _, _, _, _, _, _, _, _, _, _, _, _, _, _, _, _, _, _, _, _, _, _, _, _, _, _, _, _, _, _, _, _, _, _, rfl, hJ⟩, ?_⟩
      show (bd.extract (room lb.length) bd.size).size < bd.size
      omega
    · have ht : ¬ 128 - (lb.length : Int) % 128 - 6 < (bd.size : Int) := by have := HR.out; omega
      have ht0 : 0 ≤ 128 - (lb.length : Int) % 128 - 6 := by have := HR.out; omega
      have hrl := room_le lb.length
      go_wp2_with (go_at_call 15; go_must (refine (left_any _ (by omega) _).mono ?_); rintro e w1 ⟨rfl, rfl⟩)
      refine (piece_any w _ lb 4 (by decide) bd (by omega) (by omega) _ hE hT).mono ?_
      rintro e w5 ⟨v5, ⟨rfl, hE5⟩, ho5⟩
      have hend := putj_end (begun := true) hgg (show bd.data.toList.length ≤ room lb.length from by have e : bd.data.toList.length = bd.size := rfl; omega) hsg.out
      have HEND : Hid (lb ++ pc 4 bd.data.toList = l ++ sput false l.length body.data.toList) := Lib.hid hend
      clear hend
      go_wp2
      simp only [Exit.jump]
      go_ret
      exact ⟨v5, ⟨rfl, hE5⟩, by rw [← HEND.out]; exact ho5⟩

theorem put_any (v : Value) (l : List UInt8) (hl : l.length ≤ 4294967296) (body : ByteArray) (hb : body.size ≤ 4294967296) (w : World) (h : BytesIn w v l) (hs : ∃ ad c, v = .slice (some ad) l.length c) :
    Calls Tryd.prog 11 #[v, .string body] w fun e w' => ∃ v', (e = .returned v' ∧ Ext w w') ∧ OwnB w' w.heap.size v' (l ++ sput false l.length body.data.toList) := by
  obtain ⟨ad, c, rfl⟩ := hs
  obtain ⟨a', c', e, h1, h2, h3, h4⟩ := h
  cases e
  unfold maxLen at h2
  exact put_tip _ l hl body hb w (some ad) c h1 h2 rfl ⟨ad, rfl⟩ (.inr ⟨_, rfl, some ad, l.length, rfl, Nat.le_refl _, by unfold maxLen; omega, nofun, h4⟩)
end Go.Proofs.YthhhbmeceilkhaaDoor

/- b[lo:hi] of a slice of bytes, as one opaque value that reads as those bytes; string(..) of it. -/
namespace Go.Proofs.YthhhbmeceilkhaaDoor
open Go Go.RowKit

def subV (a : Option Addr) (c lo hi : Nat) : Value := .slice (if c = lo then a else a.map (·.add lo)) (hi - lo) (c - lo)
section
variable {ops : Array Oper} {Q : Exit → Act → World → Prop} {a : Act} {w : World} {rest : List Oper} {o : Oper}
theorem size_u8 : (Tryd.prog.info? 5).map (·.size) = some 1 := by kernel_rfl
theorem run_sub {ad : Option Addr} {n c lo hi : Nat} (h1 : lo ≤ hi) (h2 : hi ≤ n) (h3 : n ≤ c) (w : World) :
    (Instr.sliceAt 22 (.slice ad n c) (some (.int .i64 (lo : Int))) (some (.int .i64 (hi : Int))) none).run Tryd.prog w = .ok (subV ad c lo hi) w := by
  obtain ⟨i, hi', hs⟩ := Option.map_eq_some_iff.1 size_u8
  have e1 : (0 : Int) ≤ (lo : Int) ∧ (lo : Int) ≤ (hi : Int) := ⟨by omega, by omega⟩
  have e2 : (0 : Int) ≤ (hi : Int) ∧ (hi : Int) ≤ (c : Int) := ⟨by omega, by omega⟩
  have e3 : lo ≤ hi := h1
  have e4 : hi ≤ c := by omega
  simp [Instr.sliceAt, Instr.slice, Instr.sliceBounds, Instr.sliceBound, run_underlying und_bytes, sizeOf, typeInfo, hi', hs, go_sem, e1, e2, e3, e4, subV]
theorem sub_bytes {ad : Option Addr} {n c lo hi : Nat} {l : List UInt8} (h : BytesIn w (.slice ad n c) l) (h1 : lo ≤ hi) (h2 : hi ≤ l.length) : BytesIn w (subV ad c lo hi) ((l.drop lo).take (hi - lo)) := by
  obtain ⟨a', c', e, hc, hcm, ha, hcell⟩ := h
  injection e with e1 e2 e3
  subst e1 e2 e3
  have hl : ((l.drop lo).take (hi - lo)).length = hi - lo := by simp; omega
  refine ⟨_, c - lo, by rw [hl]; rfl, by rw [hl]; omega, by omega, fun e => ?_, fun j u hj => ?_⟩
  · split at e
    · omega
    · cases ad with
      | none => have := ha rfl; omega
      | some x => cases e
  · simp only [bcells, List.getElem?_map, List.getElem?_take, List.getElem?_drop] at hj
    by_cases hjl : j < hi - lo
    · rw [if_pos hjl] at hj
      obtain ⟨b, o, rfl, h⟩ := hcell (lo + j) u (by simpa [bcells] using hj)
      refine ⟨b, o + lo, ?_, by rw [show o + lo + j = o + (lo + j) by omega]; exact h⟩
      rw [if_neg (by omega)]
      simp [Addr.add_lit]
    · rw [if_neg hjl] at hj; cases hj
theorem wpList_sub (hw : Region.wanted o (yielded ops a.tmps) = true) (s x y : Operand) (hop : o.op = Op.slice 22 s (some x) (some y) none) {ad : Option Addr} {c lo hi : Nat} {l : List UInt8} (hs : a.eval s = .slice ad l.length c) (hx : a.eval x = .int .i64 (lo : Int)) (hy : a.eval y = .int .i64 (hi : Int))
    (h : BytesIn w (.slice ad l.length c) l) (h1 : lo ≤ hi) (h2 : hi ≤ l.length) (hK : ∀ u, BytesIn w u ((l.drop lo).take (hi - lo)) → wpList Tryd.prog ops Q rest (a.put o.dst u) w) : wpList Tryd.prog ops Q (o :: rest) a w := by
  have hlc : l.length ≤ c := by obtain ⟨a', c', e, hc, _⟩ := h; cases e; exact hc
  unfold wpList
  rw [if_pos hw]
  refine .inl (yields_wp (R := fun v w' => v = subV ad c lo hi ∧ w' = w) ?_ fun v w' ⟨e1, e2⟩ => by rw [e1, e2]; exact hK _ (sub_bytes h h1 h2))
  unfold yields execOp
  simp only [hop, Option.map_some, Option.map_none, hs, hx, hy, Sem.run_bind, run_sub h1 h2 hlc, Result.andThen_ok, Sem.run_pure]
  exact ⟨rfl, rfl⟩
theorem wpList_text (hw : Region.wanted o (yielded ops a.tmps) = true) (x : Operand) (hop : o.op = .convert 22 9 x) {l : List UInt8} (h : BytesIn w (a.eval x) l) (hK : ∀ s : ByteArray, Hid (s.data.toList = l) → s.size = l.length → wpList Tryd.prog ops Q rest (a.put o.dst (.string s)) w) : wpList Tryd.prog ops Q (o :: rest) a w :=
  wpList_convert_bytes hw 22 9 5 x hop und_bytes und_u8 und_string h (hK _ (Lib.hid rfl) (by simp))
end
end Go.Proofs.YthhhbmeceilkhaaDoor

/- Contracts of the library, laid at this program: each is one application of a theorem of the shelf (the text is the tool's, its numbers by name). -/
namespace Go.Proofs
open Go.Shelf
def Tryd.lays169_ren : Go.Shelf.Ren := ⟨fun | 169 => 20 | n => n, fun | 70 => 37 | 9 => 9 | 0 => 0 | 72 => 39 | 37 => 22 | 127 => 64 | 3 => 3 | 5 => 5 | n => n, fun | n => n⟩
theorem Tryd.lays169 : Go.Proofs.Lays.n169 Tryd.prog Tryd.lays169_ren := {
  mixed := by kernel_rfl
  f169 := Tryd.func20.trans (congrArg some (by kernel_rfl))
  t0 := Tryd.underlying0
  a0 := Tryd.isAgg0
  z0 := Tryd.sizeOf0
  v0 := Tryd.zeroValue0
  t3 := Tryd.underlying3
  a3 := Tryd.isAgg3
  z3 := Tryd.sizeOf3
  v3 := Tryd.zeroValue3
  t9 := Tryd.underlying9
  a9 := Tryd.isAgg9
  z9 := Tryd.sizeOf9
  v9 := Tryd.zeroValue9
  t37 := Tryd.underlying22
  a37 := Tryd.isAgg22
  z37 := Tryd.sizeOf22
  v37 := Tryd.zeroValue22
  t70 := Tryd.underlying37
  a70 := Tryd.isAgg37
  z70 := Tryd.sizeOf37
  v70 := Tryd.zeroValue37
  t72 := Tryd.underlying39
  a72 := Tryd.isAgg39
  z72 := Tryd.sizeOf39
  v72 := Tryd.zeroValue39
  t127 := Tryd.underlying64
  a127 := Tryd.isAgg64
  z127 := Tryd.sizeOf64
  v127 := Tryd.zeroValue64 }
theorem Tryd.Builder_Extra_169 : Builder.Extra Tryd.prog Tryd.lays169_ren := {
  sizeBuilder := by kernel_rfl
  liesBuilder := by kernel_rfl
  t5 := Tryd.underlying5
  a5 := Tryd.isAgg5
  z5 := Tryd.sizeOf5
  v5 := Tryd.zeroValue5
  infoByte := by kernel_rfl
  cellsByte := by kernel_rfl
  sizeByte := by kernel_rfl
  neB5 := by decide }
open Go.RowKit in
theorem Tryd.Builder_String_any_k (B b : Nat) (l : List UInt8) (w : World) (h : Lib.IsBuilderF 39 5 B b (Lib.byteCells l) w) (hBw : B ≤ w.heap.size) :
    Calls Tryd.prog 20 #[.pointer (some ⟨b, 0, none⟩)] w fun e w' => e = .returned (.string ⟨l.toArray⟩) ∧ (Lib.IsBuilderF 39 5 B b (Lib.byteCells l) w' ∧ Below B w w' ∧ Lib.OthersKept 5 (some b) w w') := Any.Builder_String_any_k Tryd.lays169 Tryd.Builder_Extra_169 B b l w h hBw
def Tryd.lays160_ren : Go.Shelf.Ren := ⟨fun | 160 => 16 | 232 => 30 | 231 => 29 | 227 => 31 | 234 => 33 | 233 => 32 | 236 => 35 | 235 => 34 | 228 => 41 | 271 => 44 | 151 => 43 | 197 => 42 | 120 => 52 | 152 => 51 | 260 => 50 | 137 => 53 | 119 => 54 | 224 => 55 | 225 => 56 | 217 => 57 | 266 => 58 | n => n, fun | 9 => 9 | 4 => 4 | 3 => 3 | 5 => 5 | 117 => 58 | 116 => 57 | 0 => 0 | 124 => 61 | 21 => 21 | 105 => 66 | 46 => 62 | 119 => 74 | 139 => 77 | 138 => 76 | n => n, fun | 3 => 0 | 4 => 1 | n => n⟩
theorem Tryd.lays160 : Go.Proofs.Lays.n160 Tryd.prog Tryd.lays160_ren := {
  mixed := by kernel_rfl
  f119 := Tryd.func54.trans (congrArg some (by kernel_rfl))
  f120 := Tryd.func52.trans (congrArg some (by kernel_rfl))
  f137 := Tryd.func53.trans (congrArg some (by kernel_rfl))
  f151 := Tryd.func43.trans (congrArg some (by kernel_rfl))
  f152 := Tryd.func51.trans (congrArg some (by kernel_rfl))
  f160 := Tryd.func16.trans (congrArg some (by kernel_rfl))
  f197 := Tryd.func42.trans (congrArg some (by kernel_rfl))
  f217 := Tryd.func57.trans (congrArg some (by kernel_rfl))
  f224 := Tryd.func55.trans (congrArg some (by kernel_rfl))
  f225 := Tryd.func56.trans (congrArg some (by kernel_rfl))
  f227 := Tryd.func31.trans (congrArg some (by kernel_rfl))
  f228 := Tryd.func41.trans (congrArg some (by kernel_rfl))
  f231 := Tryd.func29.trans (congrArg some (by kernel_rfl))
  f232 := Tryd.func30.trans (congrArg some (by kernel_rfl))
  f233 := Tryd.func32.trans (congrArg some (by kernel_rfl))
  f234 := Tryd.func33.trans (congrArg some (by kernel_rfl))
  f235 := Tryd.func34.trans (congrArg some (by kernel_rfl))
  f236 := Tryd.func35.trans (congrArg some (by kernel_rfl))
  f260 := Tryd.func50.trans (congrArg some (by kernel_rfl))
  f266 := Tryd.func58.trans (congrArg some (by kernel_rfl))
  f271 := Tryd.func44.trans (congrArg some (by kernel_rfl))
  t0 := Tryd.underlying0
  a0 := Tryd.isAgg0
  z0 := Tryd.sizeOf0
  v0 := Tryd.zeroValue0
  t3 := Tryd.underlying3
  a3 := Tryd.isAgg3
  z3 := Tryd.sizeOf3
  v3 := Tryd.zeroValue3
  t4 := Tryd.underlying4
  a4 := Tryd.isAgg4
  z4 := Tryd.sizeOf4
  v4 := Tryd.zeroValue4
  t5 := Tryd.underlying5
  a5 := Tryd.isAgg5
  z5 := Tryd.sizeOf5
  v5 := Tryd.zeroValue5
  t9 := Tryd.underlying9
  a9 := Tryd.isAgg9
  z9 := Tryd.sizeOf9
  v9 := Tryd.zeroValue9
  t21 := Tryd.underlying21
  a21 := Tryd.isAgg21
  z21 := Tryd.sizeOf21
  v21 := Tryd.zeroValue21
  t46 := Tryd.underlying62
  a46 := Tryd.isAgg62
  z46 := Tryd.sizeOf62
  v46 := Tryd.zeroValue62
  t105 := Tryd.underlying66
  a105 := Tryd.isAgg66
  z105 := Tryd.sizeOf66
  v105 := Tryd.zeroValue66
  t116 := Tryd.underlying57
  a116 := Tryd.isAgg57
  z116 := Tryd.sizeOf57
  t117 := Tryd.underlying58
  a117 := Tryd.isAgg58
  z117 := Tryd.sizeOf58
  v117 := Tryd.zeroValue58
  t119 := Tryd.underlying74
  a119 := Tryd.isAgg74
  z119 := Tryd.sizeOf74
  t124 := Tryd.underlying61
  a124 := Tryd.isAgg61
  z124 := Tryd.sizeOf61
  v124 := Tryd.zeroValue61
  t138 := Tryd.underlying76
  a138 := Tryd.isAgg76
  z138 := Tryd.sizeOf76
  v138 := Tryd.zeroValue76
  t139 := Tryd.underlying77
  a139 := Tryd.isAgg77
  z139 := Tryd.sizeOf77
  v139 := Tryd.zeroValue77
  g3 := by kernel_rfl
  g4 := by kernel_rfl }
open Go.RowKit in
theorem Tryd.strings_Trim_one (s : ByteArray) (c : UInt8) (hc : c.toNat < 128) (w : World) (hs : s.size ≤ 9223372036854775807) :
    Calls Tryd.prog 16 #[.string s, .string ⟨#[c]⟩] w fun e w' => e = .returned (.string ⟨(Lib.trimB s.data.toList c).toArray⟩) ∧ (w' = w ∨ w' = w.drew) := Any.strings_Trim_one Tryd.lays160 s c hc w hs
end Go.Proofs
