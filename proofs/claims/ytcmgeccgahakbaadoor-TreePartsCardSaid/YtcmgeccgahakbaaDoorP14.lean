/- Package tree: Other. -/
import Derived.Test.YtcmgeccgahakbaaDoorP4
import Derived.Lib.SlicesS
import Derived.Test.YtcmgeccgahakbaaDoorP13
import Derived.Test.YtcmgeccgahakbaaDoorP12
import Derived.Test.YtcmgeccgahakbaaDoorP10
import Derived.Test.YtcmgeccgahakbaaDoorP1
import Derived.Test.YtcmgeccgahakbaaDoorP2
set_option linter.unusedSimpArgs false
set_option linter.unusedVariables false
namespace Go.Proofs.YtcmgeccgahakbaaDoor
open Go Go.RowKit
attribute [local go_sem] yields yUpon

/-- The places among the first k at which the texts differ (or are none). -/
def oth (ts m : List ByteArray) (k : Nat) : List Int := ((List.range k).filter fun i => decide (m[i]? ≠ ts[i]?)).map Int.ofNat
theorem oth_hit {ts m : List ByteArray} {k : Nat} (h : m[k]? ≠ ts[k]?) : kcells .i64 (oth ts m (k + 1)) = kcells .i64 (oth ts m k) ++ [.int .i64 (k : Int)] := by
  simp [oth, List.range_succ, h, kcells]
theorem oth_miss {ts m : List ByteArray} {k : Nat} (h : m[k]? = ts[k]?) : oth ts m (k + 1) = oth ts m k := by
  simp [oth, List.range_succ, h]
theorem oth_le (ts m : List ByteArray) (k : Nat) : (oth ts m k).length ≤ k := by
  unfold oth
  rw [List.length_map]
  exact Nat.le_trans (List.length_filter_le _ _) (by simp)

set_option maxRecDepth 100000 in
set_option maxHeartbeats 4000000 in
theorem other_any (v u : Value) (l : List Int) (m : List ByteArray) (w : World) (hin : IntsIn w v .i64 l) (hu : TsIn w u m) (hb : ∀ x ∈ l, -9223372036854775808 ≤ x ∧ x ≤ 9223372036854775807) (hlen : l.length ≤ 1000000) (hT : TabX w) :
    Calls Tryd.prog 45 #[v, u] w fun e w' => ∃ v', (e = .returned v' ∧ Ext w w') ∧ IntsIn w' v' .i64 (oth (stxs l) m l.length) := by
  have HB := Lib.hid hb
  have HT := Lib.hid hT
  have HI := Lib.hid hin
  obtain ⟨au, cu, rfl, hcu, hcum, hucell⟩ := hu.get
  have HU := Lib.hid hucell
  obtain ⟨n, hn⟩ : ∃ n, n = l.length := ⟨_, rfl⟩
  have HN := Lib.hid hn
  rw [← hn] at hlen ⊢
  obtain ⟨nm, hnm⟩ : ∃ nm, nm = m.length := ⟨_, rfl⟩
  have HM := Lib.hid hnm
  rw [← hnm] at hcu
  rw [← hnm]
  obtain ⟨ts, hts⟩ : ∃ ts, ts = stxs l := ⟨_, rfl⟩
  have HS := Lib.hid hts
  have hns : n = ts.length := by rw [hts, hn]; simp [stxs]
  have HNS := Lib.hid hns
  rw [← hts]
  clear hb hT hucell hin hn hnm hts hns hu
  go_enter Tryd.func45, Tryd.ntmps45
  go_wp2_with (go_at_call 43; go_must (refine (texts_any _ l _ HI.out HB.out (by rw [← HN.out]; exact hlen) HT.out).mono ?_); rintro e w1 ⟨v1, ⟨rfl, hE1⟩, ho1⟩; have hr1 : TsIn w1 v1 (stxs l) := (by have h := SliceIn.of_owns ho1; unfold TsIn; simpa [stxs] using h); rw [← HS.out] at hr1; obtain ⟨a1, c1, rfl, hc1, hcm1, hcell1⟩ := hr1.get; rw [← HNS.out] at hc1 ⊢; have HC := Lib.hid hcell1; clear hcell1 hr1 ho1)
  go_loopw [5, 11] (fun vb i wr => ∃ k : Nat, k ≤ n ∧ i = .int .i64 k ∧ Ext w1 wr ∧ wr.ownsRow w1.heap.size 3 1 vb (oth ts m k).length (kcells .i64 (oth ts m k))) (fun _ i _ => n - (intOf i).toNat)
  case atStart => exact ⟨0, Nat.zero_le _, rfl, Ext.refl w1, by unfold oth; exact World.ownsRow_nil _ _ _ _⟩
  case round =>
    obtain ⟨k, hk, rfl, hE, hown⟩ := hrel
    by_cases hlt : k < n
    · have hkl : k < ts.length := by rw [← HNS.out]; exact hlt
      obtain ⟨b, o, rfl, hco⟩ := HC.out k hkl
      replace hco := hE.cell hco
      have hts : ts[k]? = some ts[k] := List.getElem?_eq_getElem hkl
      obtain ⟨x, hx⟩ : ∃ x, x = ts[k] := ⟨_, rfl⟩
      rw [← hx] at hco hts
      clear hx
      have hol := oth_le ts m k
      by_cases hkm : k < nm
      · have hkm' : k < m.length := by rw [← HM.out]; exact hkm
        obtain ⟨bu, ou, rfl, hcv⟩ := HU.out k hkm'
        replace hcv := (hE1.trans hE).cell hcv
        have hms : m[k]? = some m[k] := List.getElem?_eq_getElem hkm'
        obtain ⟨y, hy⟩ : ∃ y, y = m[k] := ⟨_, rfl⟩
        rw [← hy] at hcv hms
        clear hy
        by_cases hxy : y = x
        · subst hxy
          have hm := oth_miss (ts := ts) (m := m) (k := k) (by rw [hms, hts])
          have hown2 : wr.ownsRow w1.heap.size 3 1 u5 (oth ts m (k + 1)).length (kcells .i64 (oth ts m (k + 1))) := by rw [hm]; exact hown
          clear hown hm
          go_wp2
          refine ⟨⟨k + 1, hlt, by go_num, hE, hown2⟩, ?_⟩
          simp [intOf]
          omega
        · have hbe : (y.toList == x.toList) = false := (Lib.bytes_beq_false_iff y x).2 hxy
          have hne : m[k]? ≠ ts[k]? := by
            rw [hms, hts]
            exact fun h => hxy (Option.some.inj h)
          have HK := Lib.hid (oth_hit hne)
          obtain ⟨q, hq⟩ : ∃ q, q = (oth ts m k).length := ⟨_, rfl⟩
          have HQ := Lib.hid hq
          rw [← hq] at hown hol
          clear hq hne
          go_wp2_with (at_builtin; go_must (refine appR info_intX und_intsX rfl (by decide) wr rfl (.tmp 28) (.tmp 30) rfl w1.heap.size hE.le _ q _ hown (by rfl) 1 _ (by rfl) (by rfl) (by simp [Value.oneCell']) (by unfold maxLen; omega) (by omega) ?_); intro v8 w8 ho8 hg8)
          have hE8 := (hE.alloc (.cells #[.int .i64 (k : Int)] 3)).grown hg8 (fun k hk => (hown.lt k hk).1)
          have hown2 : w8.ownsRow w1.heap.size 3 1 v8 (oth ts m (k + 1)).length (kcells .i64 (oth ts m (k + 1))) := by
            have hl : (oth ts m (k + 1)).length = q + 1 := by
              have := congrArg List.length HK.out
              simp at this
              rw [this, HQ.out]
            rw [hl, HK.out]
            exact ho8
          go_roundw
          case rel => exact ⟨k + 1, hlt, by go_num, hE8, hown2⟩
          case measure => simp [intOf]; omega
      · have hne : m[k]? ≠ ts[k]? := by
          rw [hts, List.getElem?_eq_none (by rw [← HM.out]; omega)]
          exact nofun
        have HK := Lib.hid (oth_hit hne)
        obtain ⟨q, hq⟩ : ∃ q, q = (oth ts m k).length := ⟨_, rfl⟩
        have HQ := Lib.hid hq
        rw [← hq] at hown hol
        clear hq hne
        go_wp2_with (at_builtin; go_must (refine appR info_intX und_intsX rfl (by decide) wr rfl (.tmp 28) (.tmp 30) rfl w1.heap.size hE.le _ q _ hown (by rfl) 1 _ (by rfl) (by rfl) (by simp [Value.oneCell']) (by unfold maxLen; omega) (by omega) ?_); intro v8 w8 ho8 hg8)
        have hE8 := (hE.alloc (.cells #[.int .i64 (k : Int)] 3)).grown hg8 (fun k hk => (hown.lt k hk).1)
        have hown2 : w8.ownsRow w1.heap.size 3 1 v8 (oth ts m (k + 1)).length (kcells .i64 (oth ts m (k + 1))) := by
          have hl : (oth ts m (k + 1)).length = q + 1 := by
            have := congrArg List.length HK.out
            simp at this
            rw [this, HQ.out]
          rw [hl, HK.out]
          exact ho8
        go_roundw
        case rel => exact ⟨k + 1, hlt, by go_num, hE8, hown2⟩
        case measure => simp [intOf]; omega
    · go_wp2
      go_ret
      have : k = n := by omega
      subst this
      exact ⟨_, ⟨rfl, hE1.trans hE⟩, SliceIn.of_owns hown⟩
end Go.Proofs.YtcmgeccgahakbaaDoor

/- TreeParts: the plain law: all buckets give all that both own; one by one they share them out. -/
namespace Go.Proofs.YtcmgeccgahakbaaDoor

/-- The numbers below k. -/
def upL (k : Nat) : List Int := (List.range k).map Int.ofNat
theorem upL_succ (k : Nat) : upL (k + 1) = upL k ++ [(k : Int)] := by simp [upL, List.range_succ]
theorem upL_length (k : Nat) : (upL k).length = k := by simp [upL]
theorem hasI_up {k b : Nat} : hasI (upL k) (b : Int) = decide (b < k) := by
  unfold hasI upL
  rw [Bool.eq_iff_iff]
  simp
  constructor
  · rintro ⟨a, h, e⟩
    omega
  · intro h
    exact ⟨b, h, rfl⟩
theorem hasI_one (k b : Nat) : hasI [(k : Int)] (b : Int) = (b == k) := by
  unfold hasI
  rw [Bool.eq_iff_iff]
  simp
  omega
theorem of_all (n c : Nat) (x y : Int) (L : List Pa) : ofL n c x y (upL 16) L = (L.filter (bothP n c x y)).map Pa.data := by
  unfold ofL
  congr 1
  refine List.filter_congr fun p _ => ?_
  unfold ofB
  rw [hasI_up, decide_eq_true (bucket1_lt p.key)]
  rfl
theorem of_none (n c : Nat) (x y : Int) (L : List Pa) : ofL n c x y [] L = [] := by
  unfold ofL ofB hasI
  simp
theorem of_split (n c : Nat) (x y : Int) (k : Nat) : ∀ L : List Pa, (ofL n c x y (upL (k + 1)) L).length = (ofL n c x y (upL k) L).length + (ofL n c x y [(k : Int)] L).length
  | [] => rfl
  | p :: L => by
    have ih := of_split n c x y k L
    unfold ofL at ih ⊢
    simp only [List.length_map] at ih ⊢
    simp only [List.filter_cons]
    have h1 : ofB n c x y (upL (k + 1)) p = (decide (bucket1 p.key < k + 1) && bothP n c x y p) := by unfold ofB; rw [hasI_up]
    have h2 : ofB n c x y (upL k) p = (decide (bucket1 p.key < k) && bothP n c x y p) := by unfold ofB; rw [hasI_up]
    have h3 : ofB n c x y [(k : Int)] p = ((bucket1 p.key == k) && bothP n c x y p) := by unfold ofB; rw [hasI_one]
    rw [h1, h2, h3]
    cases bothP n c x y p
    · simpa using ih
    · by_cases ha : bucket1 p.key < k
      · have hb : ¬ bucket1 p.key = k := by omega
        have hc : bucket1 p.key < k + 1 := by omega
        simp [ha, hb, hc, ih]
        omega
      · by_cases hb : bucket1 p.key = k
        · simp [hb, ih]
          omega
        · have hc : ¬ bucket1 p.key < k + 1 := by omega
          simp [ha, hb, hc, ih]
/-- What a bucket gives stands in it, and is one of the list's that both own. -/
theorem of_mem {n c : Nat} {x y : Int} {k : Nat} {L : List Pa} {d : ByteArray × Int × List Ro} (h : d ∈ ofL n c x y [(k : Int)] L) : bucket1 d.1 = k ∧ ∃ p ∈ L, p.data = d := by
  unfold ofL at h
  obtain ⟨p, hp, rfl⟩ := List.mem_map.1 h
  obtain ⟨h1, h2⟩ := List.mem_filter.1 hp
  unfold ofB at h2
  rw [hasI_one, Bool.and_eq_true, beq_iff_eq] at h2
  exact ⟨h2.1, p, h1, rfl⟩
theorem oth_nil (ts : List ByteArray) : (oth ts [] ts.length).length = ts.length := by
  unfold oth
  rw [List.length_map, List.filter_eq_self.2]
  · simp
  · intro i hi
    rw [List.getElem?_eq_getElem (List.mem_range.1 hi)]
    simp
end Go.Proofs.YtcmgeccgahakbaaDoor

/- tree.Sums of any list of partitions. -/
namespace Go.Proofs.YtcmgeccgahakbaaDoor
open Go Go.RowKit
attribute [local go_sem] yields yUpon

set_option maxRecDepth 100000 in
set_option maxHeartbeats 16000000 in
theorem sums_yes (n c : Nat) (t : Int) (hc : confB n c t = true) (v : Value) (L : List Pa) (x y : Int) (w : World) (hin : PartsIn w v L) (hlen : L.length ≤ 1000000) (hkey : ∀ p ∈ L, p.key.size ≤ maxLen) (hlow : ∀ p ∈ L, ∀ q ∈ p.ps, ∀ d ∈ q.1.cols, d.name.size ≤ 1000000) (hT : TabU w) :
    Calls Tryd.prog 40 #[.agg #[.int .i64 (n : Int), .int .i64 (c : Int), .int .i64 t], v, .int .i64 x, .int .i64 y] w fun e w' => ∃ b, (e = .returned (.slice (some ⟨b, 0, none⟩) 16 16) ∧ Ext w w') ∧ BoxAt w' b (sumsA n c x y L) 150 := by
  have b0 := BoxAt.made w #[.int .i64 (n : Int), .int .i64 (c : Int), .int .i64 t] 67
  have hE0 := (Ext.refl w).alloc (.cells #[.int .i64 (n : Int), .int .i64 (c : Int), .int .i64 t] 67)
  have x0 : (w.alloc (.cells #[.int .i64 (n : Int), .int .i64 (c : Int), .int .i64 t] 67)).cell? ⟨w.heap.size, 0, none⟩ = some (.int .i64 (n : Int)) := b0.cell 0
  have x1 : (w.alloc (.cells #[.int .i64 (n : Int), .int .i64 (c : Int), .int .i64 t] 67)).cell? ⟨w.heap.size, 1, none⟩ = some (.int .i64 (c : Int)) := b0.cell 1
  have x2 : (w.alloc (.cells #[.int .i64 (n : Int), .int .i64 (c : Int), .int .i64 t] 67)).cell? ⟨w.heap.size, 2, none⟩ = some (.int .i64 t) := b0.cell 2
  have HC := Lib.hid hc
  have HI := Lib.hid hin
  obtain ⟨a, cc, rfl, hcc, hccm, hcell⟩ := hin.get
  have HL := Lib.hid hcell
  have HK := Lib.hid hkey
  have HLo := Lib.hid hlow
  have HT := Lib.hid hT
  clear hin hc hcell hkey hlow hT
  obtain ⟨m, hm⟩ : ∃ m, m = L.length := ⟨_, rfl⟩
  have HM := Lib.hid hm
  rw [← hm] at hcc hlen HI ⊢
  clear hm
  go_enter Tryd.func40, Tryd.ntmps40
  go_wp2_with (go_at_call 100; go_must (refine (rgcheck_any n c t _).mono ?_); rintro e w1 ⟨rfl, hE1⟩; rw [HC.out])
  go_loopw [19] (fun i wr => ∃ k : Nat, k ≤ 16 ∧ i = .int .i64 k ∧ BoxAt wr w1.heap.size (onesA k) 150 ∧ Ext w1 wr) (fun i _ => 16 - (intOf i).toNat)
  case atStart => exact ⟨0, Nat.zero_le _, rfl, BoxAt.made w1 _ _, (Ext.refl w1).alloc _⟩
  case round =>
    obtain ⟨k, hk, rfl, hbox, hE⟩ := hrel
    by_cases hlt : k < 16
    · have HA := Lib.hid (onesA_at hlt)
      have HS := Lib.hid (onesA_set hlt)
      go_wp2_with (go_at_call 101; go_must (refine (tof_any ⟨#[]⟩ (by decide) _).mono ?_); rintro e w2 ⟨rfl, hE2⟩; rw [show (tok 1 (⟨#[]⟩ : ByteArray).data.toList : Int) = 1 from rfl]; have hbox2 := hbox.ext hE2; have cc := hbox2.cell k; have ff := hbox2.free k; rw [HA.out] at cc)
      go_roundw
      case rel => exact ⟨k + 1, by omega, by go_num, by rw [← HS.out]; exact hbox2.set k _, (hE.trans hE2).setCell (Nat.le_refl _) _⟩
      case measure => simp [intOf]; omega
    · obtain rfl : k = 16 := by omega
      have hE01 := hE0.trans hE1
      replace b0 := b0.ext hE1
      clear x0 x1 x2 hE0 hE1
      go_wp2
      obtain ⟨wo, hwo⟩ : ∃ w', w' = wr := ⟨_, rfl⟩
      rw [show (((16 : Nat)) : Int) = 16 from rfl]
      go_loopw [28] (fun i wr => ∃ k : Nat, k ≤ m ∧ i = .int .i64 k ∧ BoxAt wr w1.heap.size (sumsA n c x y (L.take k)) 150 ∧ Ext w1 wr) (fun i _ => m - (intOf i).toNat)
      case atStart => exact ⟨0, Nat.zero_le _, rfl, by rw [List.take_zero, sumsA_nil]; exact hbox, hE⟩
      case round =>
        clear hbox hE hwo
        obtain ⟨k, hk, rfl, hbox, hE⟩ := hrel
        by_cases hkm : k < m
        · have hkl : k < L.length := by rw [← HM.out]; exact hkm
          obtain ⟨b, o, rfl, hpa⟩ := HL.out k hkl
          replace hpa := hpa.ext (hE01.trans hE)
          obtain ⟨p, hp⟩ : ∃ p, p = L[k] := ⟨_, rfl⟩
          have hmem : p ∈ L := by rw [hp]; exact List.getElem_mem hkl
          have HTK : Hid (L.take (k + 1) = L.take k ++ [p]) := Lib.hid (by rw [List.take_succ_eq_append_getElem hkl, hp])
          rw [← hp] at hpa
          clear hp
          have hr := (HI.out.rows p hmem).ext (hE01.trans hE)
          have hks := HK.out p hmem
          have hlo := Lib.hid (HLo.out p hmem)
          obtain ⟨pk, pg, pu, ps⟩ := p
          obtain ⟨p0, p1, p2⟩ := hpa
          replace hr : RowsIn wr pu ps := hr
          replace hks : pk.size ≤ maxLen := hks
          replace p0 : wr.cell? ⟨b, o + k * 3, none⟩ = some (.string pk) := p0
          replace p1 : wr.cell? ⟨b, o + k * 3 + 1, none⟩ = some (.int .i64 pg) := p1
          replace p2 : wr.cell? ⟨b, o + k * 3 + 2, none⟩ = some pu := p2
          have HR := Lib.hid hr
          obtain ⟨au, cu, rfl, _⟩ := hr.get
          clear hr
          obtain ⟨B, hB⟩ : ∃ B, B = (ownN n c (place1 pk) x && ownN n c (place1 pk) y) := ⟨_, rfl⟩
          have HBB := Lib.hid hB
          clear hB
          go_wp2_with (first
            | (((guard_target =~ wpList _ _ _ (Oper.mk none (Op.store _ (Operand.tmp 12) (Operand.tmp 31)) _ _ _ _ :: _) _ _); go_must (refine storeBox rfl 24 (.tmp 12) (.tmp 31) rfl (wr.heap.size) _ _ _ (by rfl) (by rfl) ((BoxAt.made wr #[.string ⟨#[]⟩, .int .i64 0, .slice none 0 0] 24)) (by kernel_rfl) (by rfl) (by simp [Value.oneCell']) ?_); intro w2 d2 g2); have hE2 : Ext wr w2 := (((Ext.refl wr).alloc _).grown g2 (fun q hq => by cases hq; exact Nat.le_refl _)); have q0 : w2.cell? ⟨wr.heap.size, 0, none⟩ = some (.string pk) := d2.cell 0; have z2 := b0.ext (hE.trans hE2); have x0 : w2.cell? ⟨w.heap.size, 0, none⟩ = some (.int .i64 (n : Int)) := z2.cell 0; have x1 : w2.cell? ⟨w.heap.size, 1, none⟩ = some (.int .i64 (c : Int)) := z2.cell 1; have x2 : w2.cell? ⟨w.heap.size, 2, none⟩ = some (.int .i64 t) := z2.cell 2)
            | (go_at_call 97; go_must (refine (both_yes n c t HC.out pk hks x y _).mono ?_); rintro e w3 ⟨rfl, hE3⟩; rw [← HBB.out]; have hX3 := hE2.trans hE3; have d3 := d2.ext hE3; have q0 : w3.cell? ⟨wr.heap.size, 0, none⟩ = some (.string pk) := d3.cell 0; have q1 : w3.cell? ⟨wr.heap.size, 1, none⟩ = some (.int .i64 pg) := d3.cell 1; have q2 : w3.cell? ⟨wr.heap.size, 2, none⟩ = some (.slice au ps.length cu) := d3.cell 2; cases B)
            | (go_at_call 12; go_must (refine (pk_part pk pg _ ps _ (HR.out.ext hX3) hlo.out (HT.out.ext (hE01.trans (hE.trans hX3)))).mono ?_); rintro e w4 ⟨v4, rfl, ho4, hE4⟩; have hX4 := hX3.trans hE4; have q0 : w4.cell? ⟨wr.heap.size, 0, none⟩ = some (.string pk) := (d3.ext hE4).cell 0)
            | (go_at_call 96; go_must (refine (rgbucket_any pk hks _).mono ?_); rintro e w5 ⟨rfl, hE5⟩; have hX5 := hX4.trans hE5; have ho5 := ho4.bytes.ext hE5))
          · go_roundw
            case rel => exact ⟨k + 1, hkm, by go_num, by rw [HTK.out, sumsA_skip (by exact HBB.out.symm)]; exact hbox.ext hX3, hE.trans hX3⟩
            case measure => simp [intOf]; omega
          · have hbl := bucket1_lt pk
            have hS := sumAt_lt n c x y (L.take k) (bucket1 pk)
            have hbox5 := hbox.ext hX5
            have zz := hbox5.cell (bucket1 pk)
            rw [sumsA_at _ _ _ _ _ hbl] at zz
            have hset := sumsA_set (n := n) (c := c) (x := x) (y := y) (L := L.take k) (p := ⟨pk, pg, .slice au ps.length cu, ps⟩) (by exact HBB.out.symm)
            rw [← HTK.out] at hset
            obtain ⟨l, hl⟩ : ∃ l, l = (partR pk pg (ps.map (·.1))).1 := ⟨_, rfl⟩
            rw [show bodyP ⟨pk, pg, .slice au ps.length cu, ps⟩ = l from hl.symm] at hset
            replace hset : (sumsA n c x y (L.take k)).setIfInBounds (bucket1 pk) (.int .i64 (tok (sumAt n c x y (L.take k) (bucket1 pk)) l : Int)) = sumsA n c x y (L.take (k + 1)) := hset
            rw [← hl] at ho5
            clear hl
            obtain ⟨S, hSd⟩ : ∃ S, S = sumAt n c x y (L.take k) (bucket1 pk) := ⟨_, rfl⟩
            rw [← hSd] at zz hset hS
            obtain ⟨bk, hbk⟩ : ∃ bk, bk = bucket1 pk := ⟨_, rfl⟩
            rw [← hbk] at zz hset hbl ⊢
            have HSET := Lib.hid hset
            have hll : (str l).size ≤ maxLen := by
              obtain ⟨_, _, _, h1, h2, _⟩ := ho5
              rw [str_size]
              omega
            clear hSd hbk hset
            have z5 := held zz
            refine wp_region_tab 7 [(5, fun v _ => v = .string (str l)), (6, fun v _ => v = .int .i64 (tok S l : Int))] (by kernel_rfl) (by kernel_rfl) (by kernel_rfl) ⟨stays_eq _, stays_eq _, trivial⟩ ?_
            refine rg_quiet rfl rfl rfl rfl ?_; intro K hK; go_big_quiet_op; go_big_quiet_on
            refine rg_quiet rfl rfl rfl rfl ?_; intro K hK; go_big_quiet_op; go_big_quiet_on
            refine rg_quiet rfl rfl rfl rfl ?_; intro K hK; go_big_quiet_op; go_big_quiet_on
            refine rg_quiet rfl rfl rfl rfl ?_; intro K hK; go_big_quiet_op; go_big_quiet_on
            refine rg_quiet rfl rfl rfl rfl ?_; intro K hK; go_big_quiet_op; go_big_quiet_on
            refine rg_text [] 33 9 5 (.tmp 50) l rfl rfl rfl rfl (by kernel_rfl) (by kernel_rfl) (by kernel_rfl) (by kernel_rfl) (fun w1 hE hf => (ho5.ext hE)) ?_
            simp only [Act.put, List.setIfInBounds_toArray, List.set_cons_zero, List.set_cons_succ]
            refine rg_val [] rfl rfl rfl (by kernel_rfl) (fun w1 hE hf => ?_) ?_
            · go_simp
              exact (tmore_any S hS (str l) hll _).mono fun e w' ⟨he, hw⟩ => ⟨_, he, rg_done hE hw (rfl)⟩
            simp only [Act.put, List.setIfInBounds_toArray, List.set_cons_zero, List.set_cons_succ]
            refine rel_tail rfl rfl fun w6 hE6 _ => ?_
            clear z5
            have hbox6 := hbox5.ext hE6
            have zz6 := hE6.cell zz
            have zf := hbox6.free bk
            clear zz
            go_wp2
            go_roundw
            case rel => exact ⟨k + 1, hkm, by go_num, by rw [← HSET.out]; exact hbox6.set bk _, ((hE.trans hX5).trans hE6).setCell (Nat.le_refl _) _⟩
            case measure => simp [intOf]; omega
        · obtain rfl : k = m := by omega
          rw [HM.out, List.take_length] at hbox
          go_wp2
          go_ret
          exact ⟨_, ⟨rfl, hE01.trans hE⟩, hbox⟩
end Go.Proofs.YtcmgeccgahakbaaDoor

/- A world in which one block may have turned. -/
namespace Go.Proofs.YtcmgeccgahakbaaDoor
open Go Go.RowKit

/-- All blocks but one stay. -/
structure Touch9 (w w' : World) (q : Nat) : Prop where
  os : w'.os = w.os
  tape : w'.tape = w.tape
  output : w'.output = w.output
  size : w.heap.size ≤ w'.heap.size
  block : ∀ k, k < w.heap.size → k ≠ q → w'.heap[k]? = w.heap[k]?
theorem Touch9.set (w : World) {q : Nat} (i : Nat) (u : Value) : Touch9 w (w.setCell ⟨q, i, none⟩ u) q := ⟨rfl, rfl, rfl, by rw [Deep.nblk_setCell]; exact Nat.le_refl _, fun k _ hn => heap_setCell_other _ _ _ _ hn⟩
theorem Touch9.more {w a b : World} {q : Nat} (h : Touch9 w a q) (hE : Ext a b) : Touch9 w b q := ⟨hE.os.trans h.os, hE.tape.trans h.tape, hE.output.trans h.output, Nat.le_trans h.size hE.size, fun k hk hn => (hE.block k (Nat.lt_of_lt_of_le hk h.size)).trans (h.block k hk hn)⟩
theorem Touch9.grown {w a b : World} {q : Nat} {r : Option Nat} (h : Touch9 w a q) (hg : a.grownBy b r) (hr : ∀ k, r = some k → w.heap.size ≤ k) : Touch9 w b q := ⟨hg.os.trans h.os, hg.tape.trans h.tape, hg.output.trans h.output, Nat.le_trans h.size hg.size, fun k hk hn => (hg.block k (Nat.lt_of_lt_of_le hk h.size) (fun e => by have := hr k e.symm; omega)).trans (h.block k hk hn)⟩
theorem Touch9.put {w a : World} {q : Nat} (h : Touch9 w a q) (i : Nat) (u : Value) : Touch9 w (a.setCell ⟨q, i, none⟩ u) q := ⟨h.os, h.tape, h.output, by rw [Deep.nblk_setCell]; exact h.size, fun k hk hn => (heap_setCell_other _ _ _ _ hn).trans (h.block k hk hn)⟩
theorem Touch9.slice {w a : World} {q : Nat} (h : Touch9 w a q) {v : Value} {n : Nat} {xs : List Value} (hs : SliceIn w v n xs) (hv : ∀ b o k c, v = .slice (some ⟨b, o, none⟩) k c → b ≠ q) : SliceIn a v n xs := by
  obtain ⟨ad, c, rfl, hc, hcm, ha, hcell⟩ := hs
  refine ⟨ad, c, rfl, hc, hcm, ha, fun j x hj => ?_⟩
  obtain ⟨b, o, rfl, hx⟩ := hcell j x hj
  have hne := hv b o n c rfl
  have hl := World.block_lt_of_cell? w _ hx
  refine ⟨b, o, rfl, ?_⟩
  rw [World.cell?_of_block (w := w) (h.block b hl hne)]
  exact hx
theorem Touch9.box {w a : World} {q p : Nat} (h : Touch9 w a q) {cs : Array Value} {e : TypeId} (hb : BoxAt w p cs e) (hp : p ≠ q) : BoxAt a p cs e := by
  have hl := hb.lt
  unfold BoxAt at *
  rw [h.block p hl hp]; exact hb
theorem Touch9.ext {w0 w a : World} {q : Nat} (h : Touch9 w a q) (hE : Ext w0 w) (hq : w0.heap.size ≤ q) : Ext w0 a := ⟨h.os.trans hE.os, h.tape.trans hE.tape, h.output.trans hE.output, Nat.le_trans hE.size h.size, fun k hk => (h.block k (Nat.lt_of_lt_of_le hk hE.size) (by omega)).trans (hE.block k hk)⟩
theorem Touch9.put2 {w a : World} {q p : Nat} (h : Touch9 w a q) (hp : w.heap.size ≤ p) (i : Nat) (u : Value) : Touch9 w (a.setCell ⟨p, i, none⟩ u) q := ⟨h.os, h.tape, h.output, by rw [Deep.nblk_setCell]; exact h.size, fun k hk hn => (heap_setCell_other _ _ _ _ (by show k ≠ p; omega)).trans (h.block k hk hn)⟩
theorem slice_off {w : World} {q i : Nat} {u v : Value} {n : Nat} {xs : List Value} (h : SliceIn w v n xs) (hv : ∀ b o k c, v = .slice (some ⟨b, o, none⟩) k c → b ≠ q) : SliceIn (w.setCell ⟨q, i, none⟩ u) v n xs := by
  obtain ⟨a, c, rfl, hc, hcm, ha, hcell⟩ := h
  refine ⟨a, c, rfl, hc, hcm, ha, fun j x hj => ?_⟩
  obtain ⟨b, o, rfl, hx⟩ := hcell j x hj
  have hne := hv b o n c rfl
  refine ⟨b, o, rfl, ?_⟩
  rw [World.cell?_of_block (w := w) (heap_setCell_other _ _ _ _ hne)]
  exact hx
theorem off_blk {b0 q : Nat} (h : b0 ≠ q) (n0 c0 : Nat) : ∀ b o k c, (.slice (some ⟨b0, 0, none⟩) n0 c0 : Value) = .slice (some ⟨b, o, none⟩) k c → b ≠ q := by
  intro b o k c e
  cases e
  exact h

end Go.Proofs.YtcmgeccgahakbaaDoor
