/- Package tree: Other. -/
import Derived.Test.YtcmgeccgahakbaaDoorR4
import Derived.Lib.SlicesS
import Derived.Test.YtcmgeccgahakbaaDoorR12
import Derived.Test.YtcmgeccgahakbaaDoorR13
import Derived.Test.YtcmgeccgahakbaaDoorR14
set_option linter.unusedSimpArgs false
set_option linter.unusedVariables false
namespace Go.Proofs.YtcmgeccgahakbaaDoor
open Go Go.RowKit
attribute [local go_sem] yields yUpon

/-- The places among the first k at which the texts differ (or are none). -/
def oth (ts m : List ByteArray) (k : Nat) : List Int := ((List.range k).filter fun i => decide (m[i]? ≠ ts[i]?)).map Int.ofNat
theorem oth_hit {ts m : List ByteArray} {k : Nat} (h : m[k]? ≠ ts[k]?) : kcells .i64 (oth ts m (k + 1)) = kcells .i64 (oth ts m k) ++ [.int .i64 (k : Int)] := by
  simp [oth, List.range_succ, h, kcells]
theorem oth_miss {ts m : List ByteArray} {k : Nat} (h : m[k]? = ts[k]?) : oth ts m (k + 1) = oth ts m k := by
  simp [oth, List.range_succ, h]
theorem oth_le (ts m : List ByteArray) (k : Nat) : (oth ts m k).length ≤ k := by
  unfold oth
  rw [List.length_map]
  exact Nat.le_trans (List.length_filter_le _ _) (by simp)

set_option maxRecDepth 100000 in
set_option maxHeartbeats 4000000 in
theorem other_any (v u : Value) (l : List Int) (m : List ByteArray) (w : World) (hin : IntsIn w v .i64 l) (hu : TsIn w u m) (hb : ∀ x ∈ l, -9223372036854775808 ≤ x ∧ x ≤ 9223372036854775807) (hlen : l.length ≤ 1000000) (hT : TabX w) :
    Calls Tryd.prog 45 #[v, u] w fun e w' => ∃ v', (e = .returned v' ∧ Ext w w') ∧ IntsIn w' v' .i64 (oth (stxs l) m l.length) := by
  have HB := Lib.hid hb
  have HT := Lib.hid hT
  have HI := Lib.hid hin
  obtain ⟨au, cu, rfl, hcu, hcum, hucell⟩ := hu.get
  have HU := Lib.hid hucell
  obtain ⟨n, hn⟩ : ∃ n, n = l.length := ⟨_, rfl⟩
  have HN := Lib.hid hn
  rw [← hn] at hlen ⊢
  obtain ⟨nm, hnm⟩ : ∃ nm, nm = m.length := ⟨_, rfl⟩
  have HM := Lib.hid hnm
  rw [← hnm] at hcu
  rw [← hnm]
  obtain ⟨ts, hts⟩ : ∃ ts, ts = stxs l := ⟨_, rfl⟩
  have HS := Lib.hid hts
  have hns : n = ts.length := by rw [hts, hn]; simp [stxs]
  have HNS := Lib.hid hns
  rw [← hts]
  clear hb hT hucell hin hn hnm hts hns hu
  go_enter Tryd.func45, Tryd.ntmps45
  go_wp2_with (go_at_call 43; go_must (refine (texts_any _ l _ HI.out HB.out (by rw [← HN.out]; exact hlen) HT.out).mono ?_); rintro e w1 ⟨v1, ⟨rfl, hE1⟩, ho1⟩; have hr1 : TsIn w1 v1 (stxs l) := (by have h := SliceIn.of_owns ho1; unfold TsIn; simpa [stxs] using h); rw [← HS.out] at hr1; obtain ⟨a1, c1, rfl, hc1, hcm1, hcell1⟩ := hr1.get; rw [← HNS.out] at hc1 ⊢; have HC := Lib.hid hcell1; clear hcell1 hr1 ho1)
  go_loopw [5, 11] (fun vb i wr => ∃ k : Nat, k ≤ n ∧ i = .int .i64 k ∧ Ext w1 wr ∧ wr.ownsRow w1.heap.size 3 1 vb (oth ts m k).length (kcells .i64 (oth ts m k))) (fun _ i _ => n - (intOf i).toNat)
  case atStart => exact ⟨0, Nat.zero_le _, rfl, Ext.refl w1, by unfold oth; exact World.ownsRow_nil _ _ _ _⟩
  case round =>
    obtain ⟨k, hk, rfl, hE, hown⟩ := hrel
    by_cases hlt : k < n
    · have hkl : k < ts.length := by rw [← HNS.out]; exact hlt
      obtain ⟨b, o, rfl, hco⟩ := HC.out k hkl
      replace hco := hE.cell hco
      have hts : ts[k]? = some ts[k] := List.getElem?_eq_getElem hkl
      obtain ⟨x, hx⟩ : ∃ x, x = ts[k] := ⟨_, rfl⟩
      rw [← hx] at hco hts
      clear hx
      have hol := oth_le ts m k
      by_cases hkm : k < nm
      · have hkm' : k < m.length := by rw [← HM.out]; exact hkm
        obtain ⟨bu, ou, rfl, hcv⟩ := HU.out k hkm'
        replace hcv := (hE1.trans hE).cell hcv
        have hms : m[k]? = some m[k] := List.getElem?_eq_getElem hkm'
        obtain ⟨y, hy⟩ : ∃ y, y = m[k] := ⟨_, rfl⟩
        rw [← hy] at hcv hms
        clear hy
        by_cases hxy : y = x
        · subst hxy
          have hm := oth_miss (ts := ts) (m := m) (k := k) (by rw [hms, hts])
          have hown2 : wr.ownsRow w1.heap.size 3 1 u5 (oth ts m (k + 1)).length (kcells .i64 (oth ts m (k + 1))) := by rw [hm]; exact hown
          clear hown hm
          go_wp2
          refine ⟨⟨k + 1, hlt, by go_num, hE, hown2⟩, ?_⟩
          simp [intOf]
          omega
        · have hbe : (y.toList == x.toList) = false := (Lib.bytes_beq_false_iff y x).2 hxy
          have hne : m[k]? ≠ ts[k]? := by
            rw [hms, hts]
            exact fun h => hxy (Option.some.inj h)
          have HK := Lib.hid (oth_hit hne)
          obtain ⟨q, hq⟩ : ∃ q, q = (oth ts m k).length := ⟨_, rfl⟩
          have HQ := Lib.hid hq
          rw [← hq] at hown hol
          clear hq hne
          go_wp2_with (at_builtin; go_must (refine appR info_intX und_intsX rfl (by decide) wr rfl (.tmp 28) (.tmp 30) rfl w1.heap.size hE.le _ q _ hown (by rfl) 1 _ (by rfl) (by rfl) (by simp [Value.oneCell']) (by unfold maxLen; omega) (by omega) ?_); intro v8 w8 ho8 hg8)
          have hE8 := (hE.alloc (.cells #[.int .i64 (k : Int)] 3)).grown hg8 (fun k hk => (hown.lt k hk).1)
          have hown2 : w8.ownsRow w1.heap.size 3 1 v8 (oth ts m (k + 1)).length (kcells .i64 (oth ts m (k + 1))) := by
            have hl : (oth ts m (k + 1)).length = q + 1 := by
              have := congrArg List.length HK.out
              simp at this
              rw [this, HQ.out]
            rw [hl, HK.out]
            exact ho8
          go_roundw
          case rel => exact ⟨k + 1, hlt, by go_num, hE8, hown2⟩
          case measure => simp [intOf]; omega
      · have hne : m[k]? ≠ ts[k]? := by
          rw [hts, List.getElem?_eq_none (by rw [← HM.out]; omega)]
          exact nofun
        have HK := Lib.hid (oth_hit hne)
        obtain ⟨q, hq⟩ : ∃ q, q = (oth ts m k).length := ⟨_, rfl⟩
        have HQ := Lib.hid hq
        rw [← hq] at hown hol
        clear hq hne
        go_wp2_with (at_builtin; go_must (refine appR info_intX und_intsX rfl (by decide) wr rfl (.tmp 28) (.tmp 30) rfl w1.heap.size hE.le _ q _ hown (by rfl) 1 _ (by rfl) (by rfl) (by simp [Value.oneCell']) (by unfold maxLen; omega) (by omega) ?_); intro v8 w8 ho8 hg8)
        have hE8 := (hE.alloc (.cells #[.int .i64 (k : Int)] 3)).grown hg8 (fun k hk => (hown.lt k hk).1)
        have hown2 : w8.ownsRow w1.heap.size 3 1 v8 (oth ts m (k + 1)).length (kcells .i64 (oth ts m (k + 1))) := by
          have hl : (oth ts m (k + 1)).length = q + 1 := by
            have := congrArg List.length HK.out
            simp at this
            rw [this, HQ.out]
          rw [hl, HK.out]
          exact ho8
        go_roundw
        case rel => exact ⟨k + 1, hlt, by go_num, hE8, hown2⟩
        case measure => simp [intOf]; omega
    · go_wp2
      go_ret
      have : k = n := by omega
      subst this
      exact ⟨_, ⟨rfl, hE1.trans hE⟩, SliceIn.of_owns hown⟩
end Go.Proofs.YtcmgeccgahakbaaDoor

/- Plain law: which texts are other ones. No program. -/
namespace Go.Proofs.YtcmgeccgahakbaaDoor

theorem oth_same (ts : List ByteArray) (n : Nat) : oth ts ts n = [] := by
  simp [oth]
theorem filter_one (k : Nat) : ∀ n, (List.range n).filter (fun i => decide (i = k)) = if k < n then [k] else []
  | 0 => by simp
  | n + 1 => by
    rw [List.range_succ, List.filter_append, filter_one k n]
    by_cases h : n = k
    · subst h; simp
    · by_cases hk : k < n
      · rw [if_pos hk, if_pos (by omega)]; simp [h]
      · rw [if_neg hk, if_neg (by omega)]; simp [h]
theorem oth_one {ts : List ByteArray} {k : Nat} (hk : k < ts.length) {x : ByteArray} (hx : x ≠ ts[k]) : oth ts (ts.set k x) ts.length = [(k : Int)] := by
  have h : (List.range ts.length).filter (fun i => decide ((ts.set k x)[i]? ≠ ts[i]?)) = (List.range ts.length).filter (fun i => decide (i = k)) := by
    refine List.filter_congr fun i hi => ?_
    have hi' : i < ts.length := List.mem_range.1 hi
    rw [List.getElem?_set]
    by_cases h : k = i
    · subst h
      rw [if_pos rfl, if_pos hi', List.getElem?_eq_getElem hi']
      simp [hx]
    · rw [if_neg h]
      have : ¬ i = k := fun e => h e.symm
      simp [this]
  unfold oth
  rw [h, filter_one, if_pos hk]
  rfl
theorem filter_from (k : Nat) : ∀ d, (List.range (k + d)).filter (fun i => decide (k ≤ i)) = (List.range d).map (k + ·)
  | 0 => by
    rw [Nat.add_zero, List.filter_eq_nil_iff.2]
    · rfl
    · intro i hi
      have := List.mem_range.1 hi
      simp
      omega
  | d + 1 => by
    rw [← Nat.add_assoc, List.range_succ, List.filter_append, filter_from k d, List.range_succ]
    simp
theorem oth_take {ts : List ByteArray} {k : Nat} (hk : k < ts.length) : oth ts (ts.take k) ts.length = (List.range (ts.length - k)).map fun i => ((k + i : Nat) : Int) := by
  have h : (List.range ts.length).filter (fun i => decide ((ts.take k)[i]? ≠ ts[i]?)) = (List.range ts.length).filter (fun i => decide (k ≤ i)) := by
    refine List.filter_congr fun i hi => ?_
    have hi' : i < ts.length := List.mem_range.1 hi
    rw [List.getElem?_take]
    by_cases h : i < k
    · rw [if_pos h]
      have : ¬ k ≤ i := by omega
      simp [this]
    · rw [if_neg h, List.getElem?_eq_getElem hi']
      have : k ≤ i := by omega
      simp [this]
  unfold oth
  rw [h]
  have e : ts.length = k + (ts.length - k) := by omega
  rw [show (List.range ts.length).filter (fun i => decide (k ≤ i)) = (List.range (k + (ts.length - k))).filter (fun i => decide (k ≤ i)) by rw [← e], filter_from, List.map_map]
  rfl
theorem oth_take_len {ts : List ByteArray} {k : Nat} (hk : k < ts.length) : (oth ts (ts.take k) ts.length).length = ts.length - k := by rw [oth_take hk]; simp
theorem oth_take_zero {ts : List ByteArray} {k : Nat} (hk : k < ts.length) (h : 0 < (oth ts (ts.take k) ts.length).length) : (oth ts (ts.take k) ts.length)[0] = (k : Int) := by
  simp [oth_take hk]
end Go.Proofs.YtcmgeccgahakbaaDoor

/- TreeSame's plain law: of a partition that is turned its bucket's sum alone may be another one. -/
namespace Go.Proofs.YtcmgeccgahakbaaDoor

theorem decDigits_inj : ∀ (u v : Nat), Lib.decDigits u = Lib.decDigits v → u = v := by
  intro u
  induction u using Nat.strongRecOn with
  | _ u ih =>
    intro v h
    by_cases hu : u < 10
    · by_cases hv : v < 10
      · rw [Lib.decDigits_one hu, Lib.decDigits_one hv] at h
        have h1 := congrArg UInt8.toNat (List.cons.inj h).1
        simp at h1
        omega
      · have h1 := congrArg List.length h
        rw [Lib.decDigits_length, Lib.decDigits_length, Lib.nDigits_small hu, Lib.nDigits_big hv] at h1
        have := Lib.nDigits_pos (v / 10)
        omega
    · by_cases hv : v < 10
      · have h1 := congrArg List.length h
        rw [Lib.decDigits_length, Lib.decDigits_length, Lib.nDigits_small hv, Lib.nDigits_big hu] at h1
        have := Lib.nDigits_pos (u / 10)
        omega
      · have e1 : Lib.decDigits u = Lib.decDigits (u / 10) ++ [UInt8.ofNat (48 + u % 10)] := by rw [Lib.decDigits, dif_neg hu]
        have e2 : Lib.decDigits v = Lib.decDigits (v / 10) ++ [UInt8.ofNat (48 + v % 10)] := by rw [Lib.decDigits, dif_neg hv]
        rw [e1, e2] at h
        obtain ⟨h1, h2⟩ := List.append_inj' h rfl
        have h3 := ih (u / 10) (by omega) (v / 10) h1
        have h4 := congrArg UInt8.toNat (List.cons.inj h2).1
        simp at h4
        omega
theorem stx_inj {a b : Int} (ha : 0 ≤ a) (hb : 0 ≤ b) (h : stx a = stx b) : a = b := by
  have h1 : Lib.itoa (max a 0) = Lib.itoa (max b 0) := by
    have := congrArg (fun b : ByteArray => b.data.toList) h
    simpa [stx] using this
  unfold Lib.itoa at h1
  rw [if_neg (by omega), if_neg (by omega)] at h1
  have := decDigits_inj _ _ h1
  omega

/-- What a partition is tells its part in the sums. -/
theorem sums_data {n c : Nat} {x y : Int} : ∀ {L M : List Pa}, L.map Pa.data = M.map Pa.data → ∀ b, (L.filter (inB n c x y b)).flatMap bodyP = (M.filter (inB n c x y b)).flatMap bodyP
  | [], [], _, _ => rfl
  | [], _ :: _, h, _ => by simp at h
  | _ :: _, [], h, _ => by simp at h
  | p :: L, q :: M, h, b => by
    simp only [List.map_cons, List.cons.injEq] at h
    have ih := sums_data (n := n) (c := c) (x := x) (y := y) h.2 b
    have h1 : p.key = q.key ∧ p.gone = q.gone ∧ p.ps.map (·.1) = q.ps.map (·.1) := by
      have := h.1
      unfold Pa.data at this
      simpa using this
    have h2 : inB n c x y b p = inB n c x y b q := by unfold inB bothP; rw [h1.1]
    have h3 : bodyP p = bodyP q := by unfold bodyP; rw [h1.1, h1.2.1, h1.2.2]
    simp only [List.filter_cons, h2]
    split
    · rw [List.flatMap_cons, List.flatMap_cons, h3, ih]
    · exact ih
theorem sumAt_data {n c : Nat} {x y : Int} {L M : List Pa} (h : L.map Pa.data = M.map Pa.data) (b : Nat) : sumAt n c x y L b = sumAt n c x y M b := by
  unfold sumAt
  rw [sums_data h]
theorem sumsL_data {n c : Nat} {x y : Int} {L M : List Pa} (h : L.map Pa.data = M.map Pa.data) : sumsL n c x y L = sumsL n c x y M := by
  unfold sumsL
  exact List.map_congr_left fun b _ => by rw [sumAt_data h]
theorem sumAt_comm (n c : Nat) (x y : Int) (L : List Pa) (b : Nat) : sumAt n c x y L b = sumAt n c y x L b := by
  unfold sumAt
  rw [show inB n c x y b = inB n c y x b from funext fun p => by unfold inB bothP; rw [Bool.and_comm (ownN n c (place1 p.key) x)]]
theorem sumsL_comm (n c : Nat) (x y : Int) (L : List Pa) : sumsL n c x y L = sumsL n c y x L := by
  unfold sumsL
  exact List.map_congr_left fun b _ => by rw [sumAt_comm]
theorem filter_set {α : Type} {f : α → Bool} {l : List α} {w : Nat} {p : α} (hw : w < l.length) (h1 : f l[w] = false) (h2 : f p = false) : (l.set w p).filter f = l.filter f := by
  have e : l = l.take w ++ l[w] :: l.drop (w + 1) := by rw [List.getElem_cons_drop, List.take_append_drop]
  rw [List.set_eq_take_append_cons_drop, if_pos hw]
  conv => rhs; rw [e]
  rw [List.filter_append, List.filter_append, List.filter_cons_of_neg (by rw [h2]; simp), List.filter_cons_of_neg (by rw [h1]; simp)]
theorem sumAt_set {n c : Nat} {x y : Int} {L : List Pa} {w : Nat} {p : Pa} (hw : w < L.length) (hk : p.key = L[w].key) {b : Nat} (h : inB n c x y b L[w] = false) : sumAt n c x y (L.set w p) b = sumAt n c x y L b := by
  unfold sumAt
  rw [filter_set hw h (by unfold inB bothP at h ⊢; rw [hk]; exact h)]
theorem sumsL_length (n c : Nat) (x y : Int) (L : List Pa) : (sumsL n c x y L).length = 16 := by simp [sumsL]
theorem sumsL_at (n c : Nat) (x y : Int) (L : List Pa) {b : Nat} (h : b < 16) : (sumsL n c x y L)[b]? = some (sumAt n c x y L b : Int) := by simp [sumsL, h]
theorem sumsL_low (n c : Nat) (x y : Int) (L : List Pa) : ∀ v ∈ sumsL n c x y L, 0 ≤ v ∧ v ≤ 2147483647 := by
  intro v hv
  unfold sumsL at hv
  obtain ⟨b, _, rfl⟩ := List.mem_map.1 hv
  have := sumAt_lt n c x y L b
  omega
/-- The law: the bucket of the partition that is turned, or none. -/
theorem oth_turn {n c : Nat} {x y : Int} {L : List Pa} {w : Nat} {p : Pa} (hw : w < L.length) (hk : p.key = L[w].key) :
    oth (stxs (sumsL n c x y L)) (stxs (sumsL n c x y (L.set w p))) 16 = if sumAt n c x y L (bucket1 L[w].key) = sumAt n c x y (L.set w p) (bucket1 L[w].key) then [] else [(bucket1 L[w].key : Int)] := by
  obtain ⟨k, hkd⟩ : ∃ k, k = bucket1 L[w].key := ⟨_, rfl⟩
  have hk16 : k < 16 := by rw [hkd]; exact bucket1_lt _
  have hoff : ∀ b, b ≠ k → sumAt n c x y (L.set w p) b = sumAt n c x y L b := fun b hb => sumAt_set hw hk (by unfold inB; rw [← hkd, beq_eq_false_iff_ne.2 (fun e : k = b => hb e.symm), Bool.and_false])
  rw [← hkd]
  unfold oth
  have hf : (List.range 16).filter (fun i => decide ((stxs (sumsL n c x y (L.set w p)))[i]? ≠ (stxs (sumsL n c x y L))[i]?)) = (List.range 16).filter (fun i => decide (i = k) && decide (sumAt n c x y L k ≠ sumAt n c x y (L.set w p) k)) := by
    refine List.filter_congr fun i hi => ?_
    have hi16 : i < 16 := List.mem_range.1 hi
    unfold stxs
    rw [List.getElem?_map, List.getElem?_map, sumsL_at _ _ _ _ _ hi16, sumsL_at _ _ _ _ _ hi16]
    by_cases hik : i = k
    · subst hik
      rw [Bool.eq_iff_iff]
      simp only [Option.map_some, decide_eq_true_eq, ne_eq, Option.some.injEq, decide_true, Bool.true_and]
      constructor
      · intro h e
        exact h (by rw [e])
      · intro h e
        have := stx_inj (by omega) (by omega) e
        omega
    · rw [hoff i hik]
      simp [hik]
  rw [hf]
  by_cases h : sumAt n c x y L k = sumAt n c x y (L.set w p) k
  · rw [if_pos h]
    simp [h]
  · rw [if_neg h, show (fun i => decide (i = k) && decide (sumAt n c x y L k ≠ sumAt n c x y (L.set w p) k)) = fun i => decide (i = k) from funext fun i => by simp [h], filter_one, if_pos hk16]
    rfl
theorem turn_no {n c : Nat} {x y : Int} {L : List Pa} {w : Nat} {p : Pa} (hw : w < L.length) (hk : p.key = L[w].key) (hb : bothP n c x y L[w] = false) (b : Nat) : sumAt n c x y (L.set w p) b = sumAt n c x y L b :=
  sumAt_set hw hk (by unfold inB; rw [hb]; rfl)
/-- The array of tree.Sums as integers. -/
theorem sums_ints {n c : Nat} {x y : Int} {L : List Pa} {u : Go.World} {b : Nat} (h : BoxAt u b (sumsA n c x y L) 150) : IntsIn u (.slice (some ⟨b, 0, none⟩) 16 16) .i64 (sumsL n c x y L) := by
  refine ⟨some ⟨b, 0, none⟩, 16, by rw [sumsL_length], by rw [sumsL_length]; exact Nat.le_refl _, by unfold Go.maxLen; omega, nofun, fun j u hj => ⟨b, 0, rfl, ?_⟩⟩
  rw [Nat.zero_add, h.cell j]
  unfold sumsA
  simpa using hj
theorem sumsL_wf (n c : Nat) (x y : Int) (L : List Pa) : ∀ v ∈ sumsL n c x y L, -9223372036854775808 ≤ v ∧ v ≤ 9223372036854775807 := fun v hv => by
  have := sumsL_low n c x y L v hv
  omega
end Go.Proofs.YtcmgeccgahakbaaDoor

/- tree.Sums and clerestoryref23.Sums, any configuration. -/
namespace Go.Proofs.YtcmgeccgahakbaaDoor
open Go Go.RowKit
attribute [local go_sem] yields yUpon

def sumsF (n c t x y : Int) (L : List Pa) : List Int := if confB n c t = true then sumsL n.toNat c.toNat x y L else []
theorem sums_no (n c t : Int) (hc : confB n c t = false) (v : Value) (x y : Int) (w : World) :
    Calls Tryd.prog 40 #[.agg #[.int .i64 n, .int .i64 c, .int .i64 t], v, .int .i64 x, .int .i64 y] w fun e w' => e = .returned (.slice none 0 0) ∧ Ext w w' := by
  have b0 := BoxAt.made w #[.int .i64 n, .int .i64 c, .int .i64 t] 67
  have hE0 := (Ext.refl w).alloc (.cells #[.int .i64 n, .int .i64 c, .int .i64 t] 67)
  have x0 : (w.alloc (.cells #[.int .i64 n, .int .i64 c, .int .i64 t] 67)).cell? ⟨w.heap.size, 0, none⟩ = some (.int .i64 n) := b0.cell 0
  have x1 : (w.alloc (.cells #[.int .i64 n, .int .i64 c, .int .i64 t] 67)).cell? ⟨w.heap.size, 1, none⟩ = some (.int .i64 c) := b0.cell 1
  have x2 : (w.alloc (.cells #[.int .i64 n, .int .i64 c, .int .i64 t] 67)).cell? ⟨w.heap.size, 2, none⟩ = some (.int .i64 t) := b0.cell 2
  have HC := Lib.hid hc
  clear hc
  go_enter Tryd.func40, Tryd.ntmps40
  go_wp2_with (go_at_call 100; go_must (refine (rgcheck_any n c t _).mono ?_); rintro e w1 ⟨rfl, hE1⟩; rw [HC.out])
  go_ret
  exact ⟨rfl, hE0.trans hE1⟩
theorem sums23_no (n c t : Int) (hc : confB n c t = false) (v : Value) (x y : Int) (w : World) :
    Calls Tryd.prog 41 #[.agg #[.int .i64 n, .int .i64 c, .int .i64 t], v, .int .i64 x, .int .i64 y] w fun e w' => e = .returned (.slice none 0 0) ∧ Ext w w' := by
  have b0 := BoxAt.made w #[.int .i64 n, .int .i64 c, .int .i64 t] 67
  have hE0 := (Ext.refl w).alloc (.cells #[.int .i64 n, .int .i64 c, .int .i64 t] 67)
  have x0 : (w.alloc (.cells #[.int .i64 n, .int .i64 c, .int .i64 t] 67)).cell? ⟨w.heap.size, 0, none⟩ = some (.int .i64 n) := b0.cell 0
  have x1 : (w.alloc (.cells #[.int .i64 n, .int .i64 c, .int .i64 t] 67)).cell? ⟨w.heap.size, 1, none⟩ = some (.int .i64 c) := b0.cell 1
  have x2 : (w.alloc (.cells #[.int .i64 n, .int .i64 c, .int .i64 t] 67)).cell? ⟨w.heap.size, 2, none⟩ = some (.int .i64 t) := b0.cell 2
  have HC := Lib.hid hc
  clear hc
  go_enter Tryd.func41, Tryd.ntmps41
  go_wp2_with (go_at_call 103; go_must (refine (rcheck20_any n c t _).mono ?_); rintro e w1 ⟨rfl, hE1⟩; rw [HC.out])
  go_ret
  exact ⟨rfl, hE0.trans hE1⟩
theorem sumsF_any (n c t : Int) (v : Value) (L : List Pa) (x y : Int) (w : World) (hin : PartsIn w v L) (hlen : L.length ≤ 1000000) (hkey : ∀ p ∈ L, p.key.size ≤ maxLen) (hlow : ∀ p ∈ L, ∀ q ∈ p.ps, ∀ d ∈ q.1.cols, d.name.size ≤ 1000000) (hT : TabU w) :
    Calls Tryd.prog 40 #[.agg #[.int .i64 n, .int .i64 c, .int .i64 t], v, .int .i64 x, .int .i64 y] w fun e w' => ∃ v', (e = .returned v' ∧ Ext w w') ∧ IntsIn w' v' .i64 (sumsF n c t x y L) := by
  cases hc : confB n c t
  · refine (sums_no n c t hc v x y w).mono fun e w' ⟨h1, h2⟩ => ⟨_, ⟨h1, h2⟩, ?_⟩
    unfold sumsF
    rw [hc]
    exact SliceIn.nil w'
  · obtain ⟨e1, e2⟩ := conf_nat hc
    have h := sums_yes n.toNat c.toNat t (by rw [← e1, ← e2]; exact hc) v L x y w hin hlen hkey hlow hT
    rw [← e1, ← e2] at h
    refine h.mono fun e w' ⟨b, h1, h2⟩ => ⟨_, h1, ?_⟩
    unfold sumsF
    rw [hc, if_pos rfl]
    exact sums_ints h2
theorem sums23F_any (n c t : Int) (v : Value) (L : List Pa) (x y : Int) (w : World) (hin : PartsIn w v L) (hlen : L.length ≤ 1000000) (hkey : ∀ p ∈ L, p.key.size ≤ maxLen) (hlow : ∀ p ∈ L, ∀ q ∈ p.ps, ∀ d ∈ q.1.cols, d.name.size ≤ 1000000) :
    Calls Tryd.prog 41 #[.agg #[.int .i64 n, .int .i64 c, .int .i64 t], v, .int .i64 x, .int .i64 y] w fun e w' => ∃ v', (e = .returned v' ∧ Ext w w') ∧ IntsIn w' v' .i64 (sumsF n c t x y L) := by
  cases hc : confB n c t
  · refine (sums23_no n c t hc v x y w).mono fun e w' ⟨h1, h2⟩ => ⟨_, ⟨h1, h2⟩, ?_⟩
    unfold sumsF
    rw [hc]
    exact SliceIn.nil w'
  · obtain ⟨e1, e2⟩ := conf_nat hc
    have h := sums23_yes n.toNat c.toNat t (by rw [← e1, ← e2]; exact hc) v L x y w hin hlen hkey hlow
    rw [← e1, ← e2] at h
    refine h.mono fun e w' ⟨v', h1, h2⟩ => ⟨_, h1, ?_⟩
    unfold sumsF
    rw [hc, if_pos rfl]
    have h3 := SliceIn.of_owns h2
    unfold IntsIn
    rw [sumsL_length]
    exact h3
end Go.Proofs.YtcmgeccgahakbaaDoor
