/- The reference of chapter 4: the walk of one. -/
import Derived.Test.YthhhbmeceilkhaaDoorV5
import Derived.Test.YthhhbmeceilkhaaDoorV4
set_option linter.unusedSimpArgs false
set_option linter.unusedVariables false
namespace Go.Proofs.YthhhbmeceilkhaaDoor
open Go Go.RowKit
attribute [local go_sem] yields yUpon

theorem ext_sub (s : ByteArray) (a b : Nat) : (s.extract a b).data.toList = (s.data.toList.drop a).take (b - a) := by
  rw [ByteArray.data_extract, Array.toList_extract, List.extract_eq_take_drop]

/-- What 'one' answers. -/
def OneAns (l : List UInt8) (at_ : Nat) (e : Ending) : Prop :=
  (∃ (b : ByteArray) (en : Nat), e = .returned (.tuple #[.string b, .int .i64 (en : Int)]) ∧ rd l false at_ = some (b.data.toList, en)) ∨ (e = .returned (.tuple #[.string ⟨#[]⟩, .int .i64 (-1)]) ∧ rd l false at_ = none)

set_option maxRecDepth 100000 in
set_option maxHeartbeats 8000000 in
theorem rone4_any (s : ByteArray) (hs : s.size ≤ 4294967296) (at_ : Nat) (ha : at_ ≤ s.size) (w : World) :
    Calls Tryd.prog 22 #[.string s, .int .i64 (at_ : Int)] w fun e w' => OneAns s.data.toList at_ e ∧ Ext w w' := by
  obtain ⟨l, hl⟩ : ∃ l, l = s.data.toList := ⟨_, rfl⟩
  have hls : l.length = s.size := by rw [hl]; simp
  rw [← hl]
  have HL := Lib.hid hl
  have HLS := Lib.hid hls
  clear hl hls
  have HG : ∀ k (h : k < s.size), Hid (l.getD k 0 = s[k]) := fun k h => Lib.hid (by rw [HL.out]; exact getD_s h)
  go_enter Tryd.func22, Tryd.ntmps22
  go_wp2
  go_loopw [6, 7] (fun bv i wr => ∃ (bd : ByteArray) (k : Nat), bv = .string bd ∧ i = .int .i64 (k : Int) ∧ k ≤ s.size ∧ Ext w wr ∧ bd.size ≤ k ∧ at_ ≤ k ∧ Hid (rwk l at_ = (rwk l k).map fun p => (bd.data.toList ++ p.1, p.2))) (fun _ i _ => s.size - (intOf i).toNat)
  case atStart => exact ⟨⟨#[]⟩, at_, rfl, rfl, ha, Ext.refl w, Nat.zero_le _, Nat.le_refl _, Lib.hid (by cases rwk l at_ <;> simp)⟩
  case round =>
    obtain ⟨bd, k, rfl, rfl, hk, hE, hbd, hak, HW⟩ := hrel
    have Hnone : rwk l k = none → Hid (rd l false at_ = none) := fun h => Lib.hid (rd_of_rwk_none (by rw [HW.out, h]; rfl))
    obtain ⟨K, hK⟩ : ∃ K, K = k + gap k := ⟨_, rfl⟩
    have hgi : (gap k : Int) = (K : Int) - (k : Int) := by omega
    have hgl : gap k ≤ 6 := by unfold gap; split <;> omega
    have hkK : k ≤ K := by omega
    have hK6 : K ≤ k + 6 := by omega
    have HK := Lib.hid hK
    clear hK
    go_wp2_with (go_at_call 25; go_must (refine (rgap4_any k (by omega) _).mono ?_); rintro e w1 ⟨rfl, rfl⟩)
    clear hgi
    go_loop [7, 8] (fun qv i => ∃ q : Nat, qv = .int .i64 (q : Int) ∧ i = .int .i64 ((K : Int) - (q : Int)) ∧ k ≤ q ∧ q ≤ K ∧ q ≤ s.size ∧ Hid ((l.drop k).take (q - k) = zer (q - k))) (fun _ i => (intOf i).toNat)
    case atStart => exact ⟨k, rfl, rfl, Nat.le_refl _, hkK, hk, Lib.hid (by simp [zer])⟩
    case round =>
      obtain ⟨q, rfl, rfl, hkq, hqK, hqs, HZ⟩ := hrel
      by_cases hq : q < K
      · have h0 : (0 : Int) < (K : Int) - (q : Int) := by omega
        by_cases hqs' : q < s.size
        · obtain ⟨x, hx⟩ : ∃ x, s[q].toNat = x := ⟨_, rfl⟩
          have HQ := HG q hqs'
          by_cases hx0 : x = 0
          · subst hx0
            have HZ' : Hid ((l.drop k).take (q + 1 - k) = zer (q + 1 - k)) := Lib.hid (zstep hkq HZ.out (by rw [HLS.out]; exact hqs') (by rw [HQ.out]; exact UInt8.toNat_inj.1 (by simpa using hx)))
            go_wp2
            all_goals
              go_round
              case rel => exact ⟨q + 1, by go_num, congrArg (Value.int .i64) (by omega), by omega, by omega, by omega, HZ'⟩
              case measure => simp [intOf]; omega
          · have hne : ((x : Int) != 0) = true := by simp; omega
            have HF := Hnone (rwk_gap (gapOk_false (.inr (by
              have := znot hkq (show q < k + gap k by rw [← HK.out]; exact hq) (by rw [HLS.out]; exact hqs') (by rw [HQ.out]; intro h; apply hx0; rw [← hx, h]; rfl)
              rwa [Nat.add_sub_cancel_left] at this))))
            go_wp2
            go_ret2
            exact ⟨.inr ⟨rfl, HF.out⟩, hE⟩
        · have hd : decide (s.size ≤ q) = true := by simp; omega
          have HF := Hnone (rwk_gap (gapOk_false (.inl (by rw [HLS.out, ← HK.out]; omega))))
          go_wp2
          go_ret2
          exact ⟨.inr ⟨rfl, HF.out⟩, hE⟩
      · obtain rfl : q = K := by omega
        have hgo : Hid (gapOk l k = true) := Lib.hid (gapOk_true (by rw [HLS.out, ← HK.out]; exact hqs) (by have h1 := HZ.out; have h2 := HK.out; rwa [show q - k = gap k by omega] at h1))
        by_cases h6 : q + 6 ≤ s.size
        · obtain ⟨q1, hq1⟩ : ∃ q1, q1 = q + 1 := ⟨_, rfl⟩
          have hq1i : (q : Int) + 1 = (q1 : Int) := by omega
          have hq1l : q1 < s.size := by omega
          obtain ⟨nv, hnv⟩ : ∃ nv, s[q1].toNat = nv := ⟨_, rfl⟩
          have hnvl : nv < 256 := by rw [← hnv]; exact UInt8.toNat_lt _
          have HPN : Hid (pn l q = nv) := Lib.hid (by unfold pn; rw [← hq1, (HG q1 hq1l).out]; exact hnv)
          have hql : q < s.size := by omega
          obtain ⟨kv, hkv⟩ : ∃ kv, s[q].toNat = kv := ⟨_, rfl⟩
          have HPK : Hid (pk l q = kv) := Lib.hid (by unfold pk; rw [(HG q hql).out]; exact hkv)
          clear hq1
          by_cases hn : q + 6 + nv ≤ s.size
          · obtain ⟨q6, hq6⟩ : ∃ q6, q6 = q + 6 := ⟨_, rfl⟩
            have hq6i : (q : Int) + 6 = (q6 : Int) := by omega
            obtain ⟨E, hEE⟩ : ∃ E, E = q6 + nv := ⟨_, rfl⟩
            have hEi : (q6 : Int) + (nv : Int) = (E : Int) := by omega
            have HPB : Hid ((bd ++ s.extract q6 E).data.toList = bd.data.toList ++ pb l q) := Lib.hid (by
              rw [ByteArray.data_append, Array.toList_append, ext_sub, ← HL.out]
              unfold pb
              rw [HPN.out, hq6, hEE, hq6]
              congr 2
              omega)
            have hEl : E ≤ s.size := by omega
            have hq6E : q6 ≤ E := by omega
            have hexs : (s.extract q6 E).size = nv := by rw [ByteArray.size_extract]; omega
            have HQE : Hid (q + 6 + nv = E) := Lib.hid (by omega)
            have hqE : q < E := by omega
            have hbE : bd.size + nv ≤ E := by omega
            clear hq6 hEE
            by_cases hk1 : kv = 1
            · have hb1 : ((kv : Int) == 1) = true := by simp; omega
              have HLST : Hid (rwk l at_ = some ((bd ++ s.extract q6 E).data.toList, E)) := Lib.hid (by
                have h := rwk_last hgo.out (by rw [← HK.out, HPN.out, HLS.out]; exact hn) (by rw [← HK.out, HPK.out]; exact .inl hk1)
                rw [← HK.out, HPN.out, HQE.out] at h
                rw [HW.out, h, HPB.out]
                rfl)
              have hbs : (bd ++ s.extract q6 E).size ≤ 4294967296 := by rw [ByteArray.size_append, hexs]; omega
              obtain ⟨bx, hbx⟩ : ∃ b, b = bd ++ s.extract q6 E := ⟨_, rfl⟩
              have hatE : at_ ≤ E := by omega
              go_wp2
              rw [← hbx] at hbs HLST ⊢
              clear hbx
              obtain ⟨cx, hcx⟩ : ∃ b, b = s.extract at_ E := ⟨_, rfl⟩
              have HCX : Hid (cx.data.toList = (l.drop at_).take (E - at_)) := Lib.hid (by rw [hcx, ext_sub, HL.out])
              by_cases hpe : (l.drop at_).take (E - at_) = sput false at_ bx.data.toList
              · go_region_with (go_at_call 12; go_must (refine (rput4_any at_ (by omega) bx hbs _).mono ?_); rintro e w5 ⟨p, ⟨rfl, hE5⟩, hp⟩; have hpx : p = cx := (by apply ByteArray.ext; apply Array.toList_inj.1; rw [hp.out, HCX.out, hpe]); rw [hcx] at hpx; subst hpx)
                go_wp2
                go_ret2
                exact ⟨.inl ⟨bx, E, rfl, rd_of_rwk_yes HLST.out hpe⟩, hE.drew.trans hE5⟩
              · go_region_with (go_at_call 12; go_must (refine (rput4_any at_ (by omega) bx hbs _).mono ?_); rintro e w5 ⟨p, ⟨rfl, hE5⟩, hp⟩; have hcmp1 : ((s.extract at_ E).toList == p.toList) = false := (by rw [ByteArray.toList_eq, ByteArray.toList_eq, hp.out, ← hcx, HCX.out]; simpa using hpe); have hcmp2 : ((s.extract at_ E).toList != p.toList) = true := (by rw [bne, hcmp1]; rfl))
                go_wp2
                go_ret2
                exact ⟨.inr ⟨rfl, rd_of_rwk_no HLST.out hpe⟩, hE.drew.trans hE5⟩
            · by_cases hk4 : kv = 4
              · have hb1 : ((kv : Int) == 1) = false := by simp; omega
                have hb4 : ((kv : Int) == 4) = true := by simp; omega
                have HLST : Hid (rwk l at_ = some ((bd ++ s.extract q6 E).data.toList, E)) := Lib.hid (by
                  have h := rwk_last hgo.out (by rw [← HK.out, HPN.out, HLS.out]; exact hn) (by rw [← HK.out, HPK.out]; exact .inr hk4)
                  rw [← HK.out, HPN.out, HQE.out] at h
                  rw [HW.out, h, HPB.out]
                  rfl)
                have hbs : (bd ++ s.extract q6 E).size ≤ 4294967296 := by rw [ByteArray.size_append, hexs]; omega
                obtain ⟨bx, hbx⟩ : ∃ b, b = bd ++ s.extract q6 E := ⟨_, rfl⟩
                have hatE : at_ ≤ E := by omega
                go_wp2
                rw [← hbx] at hbs HLST ⊢
                clear hbx
                obtain ⟨cx, hcx⟩ : ∃ b, b = s.extract at_ E := ⟨_, rfl⟩
                have HCX : Hid (cx.data.toList = (l.drop at_).take (E - at_)) := Lib.hid (by rw [hcx, ext_sub, HL.out])
                by_cases hpe : (l.drop at_).take (E - at_) = sput false at_ bx.data.toList
                · go_region_with (go_at_call 12; go_must (refine (rput4_any at_ (by omega) bx hbs _).mono ?_); rintro e w5 ⟨p, ⟨rfl, hE5⟩, hp⟩; have hpx : p = cx := (by apply ByteArray.ext; apply Array.toList_inj.1; rw [hp.out, HCX.out, hpe]); rw [hcx] at hpx; subst hpx)
                  go_wp2
                  go_ret2
                  exact ⟨.inl ⟨bx, E, rfl, rd_of_rwk_yes HLST.out hpe⟩, hE.drew.trans hE5⟩
                · go_region_with (go_at_call 12; go_must (refine (rput4_any at_ (by omega) bx hbs _).mono ?_); rintro e w5 ⟨p, ⟨rfl, hE5⟩, hp⟩; have hcmp1 : ((s.extract at_ E).toList == p.toList) = false := (by rw [ByteArray.toList_eq, ByteArray.toList_eq, hp.out, ← hcx, HCX.out]; simpa using hpe); have hcmp2 : ((s.extract at_ E).toList != p.toList) = true := (by rw [bne, hcmp1]; rfl))
                  go_wp2
                  go_ret2
                  exact ⟨.inr ⟨rfl, rd_of_rwk_no HLST.out hpe⟩, hE.drew.trans hE5⟩
              · have hb1 : ((kv : Int) == 1) = false := by simp; omega
                have hb4 : ((kv : Int) == 4) = false := by simp; omega
                have HON : Hid (rwk l k = (rwk l E).map fun p => (pb l q ++ p.1, p.2)) := Lib.hid (by
                  have h := rwk_on hgo.out (by rw [← HK.out, HPN.out, HLS.out]; exact hn) (by rw [← HK.out, HPK.out]; exact hk1) (by rw [← HK.out, HPK.out]; exact hk4)
                  rw [← HK.out, HPN.out, HQE.out] at h
                  exact h)
                have HW' : Hid (rwk l at_ = (rwk l E).map fun p => ((bd ++ s.extract q6 E).data.toList ++ p.1, p.2)) := Lib.hid (by
                  rw [HW.out, HON.out, HPB.out]
                  cases rwk l E <;> simp)
                go_wp2
                go_roundw
                case rel => exact ⟨_, E, rfl, rfl, hEl, hE, by rw [ByteArray.size_append, hexs]; exact hbE, by omega, HW'⟩
                case measure => simp [intOf]; omega
          · have hni : (s.size : Int) - (q : Int) - 6 < (nv : Int) := by omega
            have HF := Hnone (rwk_bad (by rw [← HK.out, HPN.out, HLS.out]; exact hn))
            go_wp2
            go_ret2
            exact ⟨.inr ⟨rfl, HF.out⟩, hE⟩
        · have h6i : (s.size : Int) - (q : Int) < 6 := by omega
          have HF := Hnone (rwk_bad (by rw [← HK.out, HLS.out]; omega))
          go_wp2
          go_ret2
          exact ⟨.inr ⟨rfl, HF.out⟩, hE⟩
end Go.Proofs.YthhhbmeceilkhaaDoor

/- The reference of chapter 4: Scan. -/
namespace Go.Proofs.YthhhbmeceilkhaaDoor
open Go Go.RowKit
attribute [local go_sem] yields yUpon

set_option maxRecDepth 100000 in
set_option maxHeartbeats 4000000 in
theorem rscan4_any (s : ByteArray) (hs : s.size ≤ 4294967296) (w : World) :
    Calls Tryd.prog 10 #[.string s] w fun e w' => ∃ v', (e = .returned (.tuple #[v', .int .i64 ((scan s.data.toList 0).2 : Int)]) ∧ Ext w w') ∧ StrsIn w' v' (scan s.data.toList 0).1 := by
  obtain ⟨l, hl⟩ : ∃ l, l = s.data.toList := ⟨_, rfl⟩
  have hls : l.length = s.size := by rw [hl]; simp
  rw [← hl]
  have HL := Lib.hid hl
  have HLS := Lib.hid hls
  clear hl hls
  go_enter Tryd.func10, Tryd.ntmps10
  go_wp2
  go_loopw [4, 5] (fun vb g wr => ∃ (bodies : List (List UInt8)) (good : Nat), g = .int .i64 (good : Int) ∧ good ≤ s.size ∧ bodies.length ≤ good ∧ Ext w wr ∧ wr.ownsRow w.heap.size 9 1 vb bodies.length (scells bodies) ∧ Hid (scan l 0 = (bodies ++ (scan l good).1, (scan l good).2))) (fun _ g _ => s.size - (intOf g).toNat)
  case atStart => exact ⟨[], 0, rfl, Nat.zero_le _, Nat.le_refl _, Ext.refl w, World.ownsRow_nil _ _ _ _, Lib.hid (by simp)⟩
  case round =>
    obtain ⟨bodies, good, rfl, hg, hbl, hE, hown, HS⟩ := hrel
    go_wp2_with fail
    refine (rone4_any s hs good hg _).mono ?_
    rw [← HL.out]
    rintro e w1 ⟨⟨b, en, rfl, hrd⟩ | ⟨rfl, hrd⟩, hE1⟩
    · obtain ⟨_, h2, h3, h4⟩ := rd_spec hrd
      have hp := sput_pos false good b.data.toList
      have hen : good < en := by omega
      have henl : en ≤ s.size := by rw [← HLS.out]; exact h4
      have HN : Hid (scan l 0 = ((bodies ++ [b.data.toList]) ++ (scan l en).1, (scan l en).2)) := Lib.hid (by rw [HS.out, scan_some hrd]; simp)
      have hext := hE.trans hE1
      have hown1 := ownsRow_ext hown hE1
      clear h2 h3 h4 hp hrd hown
      go_wp2_with (at_builtin; go_must (refine appR info_string und_strs rfl (by decide) w1 rfl (.tmp 18) (.tmp 20) rfl w.heap.size hext.le _ bodies.length (scells bodies) hown1 (by rfl) 1 _ (by rfl) (by rfl) (by simp [Value.oneCell']) (by unfold maxLen; omega) (by omega) ?_); intro v7 w7 hown7 hg7)
      have hE7 := (hext.alloc (.cells #[.string b] 9)).grown hg7 (fun k hk => (hown1.lt k hk).1)
      go_roundw
      case rel =>
        refine ⟨bodies ++ [b.data.toList], en, rfl, henl, by simp; omega, hE7, ?_, HN⟩
        have e : scells (bodies ++ [b.data.toList]) = scells bodies ++ [.string b] := by simp [scells, str_self]
        rw [e]
        simpa using hown7
      case measure => simp [intOf]; omega
    · have HN : Hid (scan l 0 = (bodies, good)) := Lib.hid (by rw [HS.out, scan_none hrd]; simp)
      go_wp2
      go_ret2
      rw [HN.out]
      exact ⟨_, ⟨rfl, hE.trans hE1⟩, SliceIn.of_owns (ownsRow_ext hown hE1)⟩
end Go.Proofs.YthhhbmeceilkhaaDoor

/- clerestorylaw00.SameStrings of two slices that read alike. -/
namespace Go.Proofs.YthhhbmeceilkhaaDoor
open Go Go.RowKit
attribute [local go_sem] yields yUpon

theorem StrsIn.ext {w w' : World} (hE : Ext w w') {v : Value} {l : List (List UInt8)} (h : StrsIn w v l) : StrsIn w' v l := SliceIn.ext hE h
theorem StrsIn.get {w : World} {v : Value} {l : List (List UInt8)} (h : StrsIn w v l) : ∃ a c, v = .slice a l.length c ∧ l.length ≤ c ∧ c ≤ maxLen ∧ ∀ k (h : k < l.length), ∃ b o, a = some ⟨b, o, none⟩ ∧ w.cell? ⟨b, o + k, none⟩ = some (.string (str l[k])) := by
  obtain ⟨a, c, rfl, hc, hcm, _, hcell⟩ := h
  exact ⟨a, c, rfl, hc, hcm, fun k hk => hcell k _ (by simp [scells, hk])⟩

set_option maxRecDepth 100000 in
set_option maxHeartbeats 2000000 in
theorem sameStr_any (v v' : Value) (l : List (List UInt8)) (w : World) (hin : StrsIn w v l) (hin' : StrsIn w v' l) :
    Calls Tryd.prog 13 #[v, v'] w fun e w' => e = .returned (.bool true) ∧ Ext w w' := by
  obtain ⟨a, c, rfl, hc, hcm, hcell⟩ := hin.get
  obtain ⟨a', c', rfl, hc', hcm', hcell'⟩ := hin'.get
  have HC := Lib.hid hcell
  have HC' := Lib.hid hcell'
  clear hcell hin hcell' hin'
  unfold maxLen at hcm hcm'
  go_enter Tryd.func13, Tryd.ntmps13
  go_wp2
  go_loopw [5] (fun i wr => ∃ k : Nat, k ≤ l.length ∧ i = .int .i64 k ∧ Ext w wr) (fun i _ => l.length - (intOf i).toNat)
  case atStart => exact ⟨0, Nat.zero_le _, rfl, Ext.refl w⟩
  case round =>
    obtain ⟨k, hk, rfl, hE⟩ := hrel
    by_cases hlt : k < l.length
    · obtain ⟨b, o, rfl, hco⟩ := HC.out k hlt
      obtain ⟨b', o', rfl, hco'⟩ := HC'.out k hlt
      obtain ⟨x, hx⟩ : ∃ x, x = str l[k] := ⟨_, rfl⟩
      rw [← hx] at hco hco'
      clear hx
      replace hco := hE.cell hco
      replace hco' := hE.cell hco'
      go_wp2
      go_quiet (fail)
      go_wp2
      go_roundw
      case rel => exact ⟨k + 1, by omega, by go_num, hE.drewN _⟩
      case measure => simp [intOf]; omega
    · obtain rfl : k = l.length := by omega
      go_wp2
      go_ret
      exact ⟨rfl, hE⟩
end Go.Proofs.YthhhbmeceilkhaaDoor

/- Plain law: behind what is good a record goes on; lengths of many records; prefixes of slices of texts. -/
namespace Go.Proofs.YthhhbmeceilkhaaDoor
open Go Go.RowKit

theorem scan_sound (s : List UInt8) : ∀ (m at_ : Nat), s.length - at_ ≤ m → s.drop at_ = puts at_ (scan s at_).1 ++ s.drop (scan s at_).2 ∧ (scan s at_).2 = at_ + (puts at_ (scan s at_).1).length := by
  intro m
  induction m with
  | zero =>
    intro at_ h
    have hr : rd s false at_ = none := by
      cases hr : rd s false at_ with
      | none => rfl
      | some p =>
        obtain ⟨b, e⟩ := p
        obtain ⟨_, _, h3, h4⟩ := rd_spec hr
        have := sput_pos false at_ b
        omega
    rw [scan_none hr]; simp [puts]
  | succ m ih =>
    intro at_ h
    cases hr : rd s false at_ with
    | none => rw [scan_none hr]; simp [puts]
    | some p =>
      obtain ⟨b, e⟩ := p
      obtain ⟨_, h2, h3, h4⟩ := rd_spec hr
      have hp := sput_pos false at_ b
      obtain ⟨i1, i2⟩ := ih e (by omega)
      rw [scan_some hr]
      simp only [puts, ← h3, List.append_assoc, List.length_append]
      refine ⟨by rw [← i1]; exact h2, by omega⟩
theorem scan_take (s : List UInt8) : s.take (scan s 0).2 = puts 0 (scan s 0).1 ∧ (scan s 0).2 = (puts 0 (scan s 0).1).length := by
  obtain ⟨h1, h2⟩ := scan_sound s _ 0 (Nat.le_refl _)
  rw [Nat.zero_add] at h2
  refine ⟨?_, h2⟩
  rw [List.drop_zero] at h1
  generalize (scan s 0).2 = g at h1 h2 ⊢
  generalize (scan s 0).1 = m at h1 h2 ⊢
  rw [h1]
  exact List.take_left' h2.symm
theorem scan_more (s body : List UInt8) : scan (s.take (scan s 0).2 ++ sput false (scan s 0).2 body) 0 = ((scan s 0).1 ++ [body], (scan s 0).2 + (sput false (scan s 0).2 body).length) := by
  obtain ⟨h1, h2⟩ := scan_take s
  have e : s.take (scan s 0).2 ++ sput false (scan s 0).2 body = puts 0 ((scan s 0).1 ++ [body]) := by
    rw [puts_append, h1, Nat.zero_add, ← h2]
    simp [puts]
  rw [e, scan_all, ← e, List.length_append, h1, ← h2]
theorem puts_le : ∀ (l : List (List UInt8)) (n : Nat), (∀ x ∈ l, x.length ≤ 400) → (puts n l).length ≤ l.length * 2812
  | [], _, _ => by simp [puts]
  | b :: l, n, h => by
    have h1 := puts_le l (n + (sput false n b).length) fun x hx => h x (List.mem_cons_of_mem _ hx)
    have h2 := lenS_le _ n b.length (Nat.le_refl _)
    have h3 := h b (List.mem_cons_self ..)
    have h4 := sput_lenS false n b
    simp only [puts, List.length_append, List.length_cons]
    omega
theorem puts_take {l : List (List UInt8)} {k : Nat} (hk : k < l.length) : puts 0 (l.take k) ++ sput false (puts 0 (l.take k)).length l[k] = puts 0 (l.take (k + 1)) := by
  rw [List.take_succ_eq_append_getElem hk, puts_append]
  simp [puts]
theorem take_le {l : List (List UInt8)} {k : Nat} (hk : k < l.length) (h : ∀ x ∈ l.take k, x.length ≤ 400) (hx : l[k].length ≤ 400) : ∀ x ∈ l.take (k + 1), x.length ≤ 400 := by
  rw [List.take_succ_eq_append_getElem hk]
  intro x hm
  rcases List.mem_append.1 hm with hm | hm
  · exact h x hm
  · rw [List.mem_singleton.1 hm]; exact hx
theorem StrsIn.pre {w : World} {a : Option Addr} {n c : Nat} {m r : List (List UInt8)} (h : StrsIn w (.slice a n c) (m ++ r)) : StrsIn w (.slice a m.length c) m := by
  obtain ⟨a', c', e, hc, hcm, ha, hcell⟩ := h
  injection e with e1 e2 e3
  subst e1 e2 e3
  refine ⟨_, _, rfl, by simp at hc; omega, hcm, ha, fun j u hj => hcell j u ?_⟩
  have hjl : j < m.length := by
    rcases Nat.lt_or_ge j m.length with h | h
    · exact h
    · rw [List.getElem?_eq_none (by simpa using h)] at hj; cases hj
  unfold scells at hj ⊢
  rw [List.map_append, List.getElem?_append_left (by simpa using hjl)]
  exact hj
theorem StrsIn.at {w : World} {v : Value} {m r : List (List UInt8)} {x : List UInt8} (h : StrsIn w v (m ++ x :: r)) : ∃ b o c, v = .slice (some ⟨b, o, none⟩) (m ++ x :: r).length c ∧ (m ++ x :: r).length ≤ c ∧ c ≤ maxLen ∧ w.cell? ⟨b, o + m.length, none⟩ = some (.string (str x)) := by
  obtain ⟨a, c, rfl, hc, hcm, hcell⟩ := h.get
  obtain ⟨b, o, rfl, hx⟩ := hcell m.length (by simp)
  exact ⟨b, o, c, rfl, hc, hcm, by simpa using hx⟩
end Go.Proofs.YthhhbmeceilkhaaDoor
