/- pack.whole: a partition's bytes. -/
import Derived.Test.YtcmgeccgahakbaaDoorS12
import Derived.Test.YtcmgeccgahakbaaDoorS9
set_option linter.unusedSimpArgs false
set_option linter.unusedVariables false
namespace Go.Proofs.YtcmgeccgahakbaaDoor
open Go Go.RowKit
attribute [local go_sem] yields yUpon

def wholeP (k : ByteArray) (g : Int) (rs : List Ro) : List UInt8 := num k.size ++ k.data.toList ++ num g.toNat ++ num rs.length ++ rs.flatMap rowP
structure OkP (k : ByteArray) (g : Int) (rs : List Ro) : Prop where
  key : k.size ≤ 1000
  gone0 : 0 ≤ g
  gone1 : g ≤ 1099511627776
  many : rs.length ≤ 1000
  rows : ∀ r ∈ rs, OkR r
theorem wholeP_le {k : ByteArray} {g : Int} {rs : List Ro} (h : OkP k g rs) : (wholeP k g rs).length ≤ 300010000 := by
  obtain ⟨h1, h2, h3, h4, h5⟩ := h
  have l1 := num_length (x := k.size) (by omega)
  have l3 := num_length (x := g.toNat) (by omega)
  have l5 := num_length (x := rs.length) (by omega)
  have l6 := flat_le (f := rowP) (fun c hc => rowP_le (h5 c hc))
  have := Nat.mul_le_mul_right 300000 h4
  unfold wholeP
  simp only [List.length_append, dat_size]
  omega

set_option maxRecDepth 100000 in
set_option maxHeartbeats 8000000 in
theorem pk_whole (k : ByteArray) (g : Int) (u : Value) (ps : List (Ro × Value)) (hp : OkP k g (ps.map (·.1))) (w : World) (hin : RowsIn w u ps) :
    Calls Tryd.prog 55 #[.agg #[.string k, .int .i64 g, u]] w fun e w' => ∃ v', e = .returned v' ∧ OwnB w' w.heap.size v' (wholeP k g (ps.map (·.1))) ∧ Ext w w' := by
  have hE0 := (Ext.refl w).alloc (.cells #[.string k, .int .i64 g, u] 24)
  have hbx := BoxAt.made w #[.string k, .int .i64 g, u] 24
  have hcols := Lib.hid hin.cols
  obtain ⟨au, cu, rfl, hcu, hcum, hget⟩ := hin.get
  obtain ⟨k1, k2, k3, k4, k5⟩ := hp
  rw [List.length_map] at k4
  have l1 := num_length (x := k.size) (by omega)
  have l2 := num_length (x := g.toNat) (by omega)
  have l3 := num_length (x := ps.length) (by omega)
  obtain ⟨B1, hB1⟩ : ∃ B, B = num k.size ++ k.data.toList := ⟨_, rfl⟩
  obtain ⟨B2, hB2⟩ : ∃ B, B = B1 ++ num g.toNat := ⟨_, rfl⟩
  obtain ⟨B3, hB3⟩ : ∃ B, B = B2 ++ num ps.length := ⟨_, rfl⟩
  have m1 : B1.length ≤ 1009 := by rw [hB1]; simp only [List.length_append, dat_size]; omega
  have m2 : B2.length ≤ 1018 := by rw [hB2, List.length_append]; omega
  have m3 : B3.length ≤ 1027 := by rw [hB3, List.length_append]; omega
  have HW : Hid (wholeP k g (ps.map (·.1)) = B3 ++ (ps.map (·.1)).flatMap rowP) := Lib.hid (by rw [hB3, hB2, hB1]; unfold wholeP; rw [List.length_map])
  have H1 := Lib.hid hB1
  have H2 := Lib.hid hB2
  have H3 := Lib.hid hB3
  have HG := Lib.hid hget
  have HK := Lib.hid k5
  rw [HW.out]
  obtain ⟨n, hn⟩ : ∃ n, n = ps.length := ⟨_, rfl⟩
  rw [← hn] at hbx hE0 hcu k4 l3 ⊢
  have HN := Lib.hid hn
  clear hB1 hB2 hB3 l1 l2 l3 hget k5 hn hin
  go_enter Tryd.func55, Tryd.ntmps55
  go_wp2
  refine wp_region_tab 11 [(2, fun v x => OwnB x w.heap.size v B1), (5, fun v x => OwnB x w.heap.size v B2), (9, fun v x => OwnB x w.heap.size v B3)] (by kernel_rfl) (by kernel_rfl) (by kernel_rfl) ⟨fun _ _ _ hE h => h.ext hE, fun _ _ _ hE h => h.ext hE, fun _ _ _ hE h => h.ext hE, trivial⟩ ?_
  have c0 := held (show (w.alloc (.cells #[.string k, .int .i64 g, .slice au n cu] 24)).cell? ⟨w.heap.size, 0, none⟩ = some (.string k) from hbx.cell 0)
  have c1 := held (show (w.alloc (.cells #[.string k, .int .i64 g, .slice au n cu] 24)).cell? ⟨w.heap.size, 1, none⟩ = some (.int .i64 g) from hbx.cell 1)
  have c2 := held (show (w.alloc (.cells #[.string k, .int .i64 g, .slice au n cu] 24)).cell? ⟨w.heap.size, 2, none⟩ = some (.slice au n cu) from hbx.cell 2)
  refine rg_quiet rfl rfl rfl rfl ?_; intro K hK; go_big_quiet_op; go_big_quiet_on
  refine rg_quiet rfl rfl rfl rfl ?_; intro K hK; go_big_quiet_op; go_big_quiet_on
  refine rg_fact [] rfl rfl rfl (by kernel_rfl) (fun y hE hf => ?_) (fun v2 y2 hE2 hG2 h2 => ?_)
  · go_simp
    refine (pk_text (.slice none 0 0) [] k (by omega) y (SliceIn.nil y) (by simp)).mono ?_
    rintro e w' ⟨v', rfl, ho, hw⟩
    exact ⟨_, rfl, rg_doneR hE hw (by rw [H1.out]; exact ho.base (hE0.trans hE).le)⟩
  obtain ⟨a2, n2, rfl⟩ := ownB_shapeP h2
  clear hE2 hG2 h2
  simp only [Act.put, List.setIfInBounds_toArray, List.set_cons_zero, List.set_cons_succ]
  refine rg_quiet rfl rfl rfl rfl ?_; intro K hK; go_big_quiet_op; go_big_quiet_on
  refine rg_quiet rfl rfl rfl rfl ?_; intro K hK; go_big_quiet_op; go_big_quiet_on
  refine rg_fact [2] rfl rfl rfl (by kernel_rfl) (fun y hE hf => ?_) (fun v5 y5 hE5 hG5 h5 => ?_)
  · have h2 := (hf 2 (by simp)).2 rfl
    go_simp
    refine (pk_number _ B1 g (by omega) (by omega) y (OwnB.bytes h2) (by omega)).mono ?_
    rintro e w' ⟨v', rfl, ho, hw⟩
    exact ⟨_, rfl, rg_doneR hE hw (by rw [H2.out]; exact ho.base (hE0.trans hE).le)⟩
  obtain ⟨a5, n5, rfl⟩ := ownB_shapeP h5
  clear hE5 hG5 h5
  simp only [Act.put, List.setIfInBounds_toArray, List.set_cons_zero, List.set_cons_succ]
  refine rg_quiet rfl rfl rfl rfl ?_; intro K hK; go_big_quiet_op; go_big_quiet_on
  refine rg_quiet rfl rfl rfl rfl ?_; intro K hK; go_big_quiet_op; go_big_quiet_on
  refine rg_quiet rfl rfl rfl rfl ?_; intro K hK; go_big_quiet_op; go_big_quiet_on
  refine rg_fact [5] rfl rfl rfl (by kernel_rfl) (fun y hE hf => ?_) (fun v9 y9 hE9 hG9 h9 => ?_)
  · have h5 := (hf 5 (by simp)).2 rfl
    go_simp
    refine (pk_number _ B2 (n : Int) (by omega) (by omega) y (OwnB.bytes h5) (by omega)).mono ?_
    rintro e w' ⟨v', rfl, ho, hw⟩
    exact ⟨_, rfl, rg_doneR hE hw (by rw [H3.out, ← HN.out]; rw [Int.toNat_natCast] at ho; exact ho.base (hE0.trans hE).le)⟩
  obtain ⟨a9, n9, rfl⟩ := ownB_shapeP h9
  clear hE9 hG9 h9
  simp only [Act.put, List.setIfInBounds_toArray, List.set_cons_zero, List.set_cons_succ]
  refine rg_quiet rfl rfl rfl rfl ?_; intro K hK; go_big_quiet_op; go_big_quiet_on
  refine rel_nil fun w3 hE2 hG => ?_
  have ho3 := (hG 9).2 rfl
  have hb2 := hbx.ext hE2
  have hEw := hE0.trans hE2
  clear c0 c1 c2 hG
  have c2 : w3.cell? ⟨w.heap.size, 2, none⟩ = some (.slice au n cu) := hb2.cell 2
  go_wp2_with fail
  go_loopw [3, 19] (fun b i wr => ∃ j : Nat, j ≤ n ∧ i = .int .i64 (j : Int) ∧ Ext w3 wr ∧ OwnB wr w.heap.size b (B3 ++ ((ps.map (·.1)).take j).flatMap rowP)) (fun _ i _ => n - (intOf i).toNat)
  case atStart => exact ⟨0, Nat.zero_le _, rfl, Ext.refl w3, by rw [List.take_zero, List.flatMap_nil, List.append_nil]; exact ho3⟩
  case round =>
    obtain ⟨j, hjn, rfl, hE, ho⟩ := hrel
    have hEa := hEw.trans hE
    have htl : (((ps.map (·.1)).take j).flatMap rowP).length ≤ 300000000 := by
      have h1 := flat_le (f := rowP) (n := 300000) (l := (ps.map (·.1)).take j) (fun c hc => rowP_le (HK.out c (List.mem_of_mem_take hc)))
      have h2 : ((ps.map (·.1)).take j).length ≤ 1000 := by rw [List.length_take, List.length_map]; have := HN.out; omega
      have := Nat.mul_le_mul_right 300000 h2
      omega
    obtain ⟨L, hL⟩ : ∃ L, L = B3 ++ ((ps.map (·.1)).take j).flatMap rowP := ⟨_, rfl⟩
    have hLl : L.length ≤ 300001027 := by rw [hL, List.length_append]; omega
    rw [← hL] at ho
    have HL := Lib.hid hL
    clear hL htl
    have ho' := ho
    obtain ⟨ab, nb, rfl⟩ := ownB_shapeP ho'
    clear ho'
    by_cases hlt : j < n
    · have hkc : j < ps.length := by rw [← HN.out]; exact hlt
      obtain ⟨b, o, rfl, hco⟩ := HG.out j hkc
      have hok := HK.out _ (List.mem_map_of_mem (f := (·.1)) (List.getElem_mem hkc))
      have hcol := hcols.out _ (List.getElem_mem hkc)
      obtain ⟨M, hM⟩ : ∃ M, M = ps[j] := ⟨_, rfl⟩
      rw [← hM] at hco hok hcol
      have HT := Lib.hid (flat_take (f := rowP) (show (ps.map (·.1)).drop j = M.1 :: (ps.map (·.1)).drop (j + 1) by rw [hM, ← List.map_drop, List.drop_eq_getElem_cons hkc, List.map_cons, List.map_drop]))
      clear hM
      obtain ⟨r, mu⟩ := M
      simp only at hco hok hcol HT
      obtain ⟨ac, cc, rfl⟩ := hcol.shape
      replace hco := hco.ext hEa
      obtain ⟨g0, g1, g2, g3, g4, g5, g6, g7⟩ := hco
      obtain ⟨L1, hL1⟩ : ∃ X, X = L ++ rowP r := ⟨_, rfl⟩
      have HL1 := Lib.hid hL1
      clear hL1
      have HO := Lib.hid hok
      clear hok
      go_wp2_with (go_at_call 110; go_must (refine (pk_row _ L r (.slice ac r.cols.length cc) HO.out _ (hcol.ext (hEa.alloc _)) (OwnB.bytes (ho.ext ((Ext.refl wr).alloc _))) (by omega)).mono ?_); rintro e w5 ⟨v5, rfl, ho5, hE5⟩; rw [← HL1.out] at ho5; have ho5' := ho5; obtain ⟨a5, n5, rfl⟩ := ownB_shapeP ho5')
      go_roundw
      case rel =>
        refine ⟨j + 1, by omega, by go_num, ((hE.alloc _).trans hE5), ?_⟩
        have e : B3 ++ ((ps.map (·.1)).take (j + 1)).flatMap rowP = L1 := by
          rw [HT.out, HL1.out, HL.out, List.append_assoc]
        rw [e]
        exact ho5.base (hEa.alloc _).le
      case measure => simp [intOf]; omega
    · obtain rfl : j = n := by omega
      go_wp2_with fail
      go_ret
      refine ⟨_, rfl, ?_, hEa⟩
      have e : B3 ++ (ps.map (·.1)).flatMap rowP = L := by rw [HL.out, List.take_of_length_le (by rw [List.length_map, HN.out]; omega)]
      rw [e]
      exact ho
end Go.Proofs.YtcmgeccgahakbaaDoor

/- pack.Part of any partition. -/
namespace Go.Proofs.YtcmgeccgahakbaaDoor
open Go Go.RowKit
attribute [local go_sem] yields yUpon

theorem stampB_le {v : Int} (h : stampB v = true) : 0 ≤ v ∧ v ≤ 1099511627776 := by
  unfold stampB at h
  simpa using h
theorem checkC_ok {c : Cl} (h : checkC c.val c.dead c.at_ c.fin = true) : OkC c := by
  unfold checkC at h
  simp only [Bool.and_eq_true] at h
  obtain ⟨⟨h1, h2⟩, h3⟩ := h
  have a := stampB_le h1
  have b := stampB_le h2
  refine ⟨a.1, a.2, b.1, b.2, ?_⟩
  have hs : ∀ s : ByteArray, s.toList = [] → s.size = 0 := by
    intro s hs
    rw [ByteArray.toList_eq] at hs
    rw [← dat_size, hs]
    rfl
  split at h3
  · simp only [Bool.and_eq_true] at h3
    have := hs c.val (by simpa using h3.1.1)
    omega
  · split at h3
    · simp only [Bool.and_eq_true] at h3
      have := hs c.val (by simpa using h3.1)
      omega
    · have := of_decide_eq_true h3
      omega
theorem csB_ok : ∀ {l : List Co} {p : Option ByteArray}, csB p l = true → ∀ c ∈ l, OkCo c ∧ nameB c.name = true ∧ checkC c.cell.val c.cell.dead c.cell.at_ c.cell.fin = true ∧ 0 < c.cell.at_
  | [], _, _, _, hc => by cases hc
  | d :: l, p, h, c, hc => by
    rw [csB_cons] at h
    simp only [Bool.and_eq_true] at h
    obtain ⟨⟨⟨⟨h1, h2⟩, h3⟩, h4⟩, h5⟩ := h
    rcases List.mem_cons.1 hc with rfl | hc
    · refine ⟨⟨?_, checkC_ok h3⟩, h1, h3, of_decide_eq_true h4⟩
      unfold nameB at h1
      simp only [Bool.and_eq_true] at h1
      have := of_decide_eq_true h1.2.2
      omega
    · exact csB_ok h5 c hc
theorem rwB_ok {r : Ro} (h : rwB r = true) : OkR r := by
  unfold rwB at h
  simp only [Bool.and_eq_true] at h
  obtain ⟨a, b, c, d, e, f, g⟩ := hdB_parts h.1
  have a' := of_decide_eq_false a
  have g' := of_decide_eq_false g
  have e' := stampB_le e
  have f' := stampB_le f
  exact ⟨by omega, checkC_ok b, e'.1, e'.2, f'.1, f'.2, by omega, fun x hx => (csB_ok h.2 x hx).1⟩
theorem rsB_ok : ∀ {l : List Ro} {p : Option ByteArray}, rsB p l = true → ∀ r ∈ l, rwB r = true
  | [], _, _, _, hr => by cases hr
  | d :: l, p, h, r, hr => by
    unfold rsB at h
    simp only [Bool.and_eq_true] at h
    rcases List.mem_cons.1 hr with rfl | hr
    · exact h.1.1
    · exact rsB_ok h.2 r hr
theorem ptB_ok {k : ByteArray} {g : Int} {l : List Ro} (h : ptB k g l = true) : OkP k g l := by
  unfold ptB at h
  simp only [Bool.and_eq_true, Bool.not_eq_true'] at h
  obtain ⟨⟨⟨⟨h1, h2⟩, h3⟩, h4⟩, h5⟩ := h
  have a := of_decide_eq_false h1
  have b := of_decide_eq_false h2
  have c := of_decide_eq_false h3
  have d := of_decide_eq_false h4
  exact ⟨by omega, by omega, by omega, by omega, fun r hr => rwB_ok (rsB_ok h5 r hr)⟩
/-- What Part answers: bytes, error. -/
def partR (k : ByteArray) (g : Int) (l : List Ro) : List UInt8 × Int := if ptB k g l then (if (wholeP k g l).length ≤ 262144 then (wholeP k g l, 0) else ([], 2)) else ([], 1)

set_option maxRecDepth 100000 in
set_option maxHeartbeats 2000000 in
theorem pk_part (k : ByteArray) (g : Int) (u : Value) (ps : List (Ro × Value)) (w : World) (hin : RowsIn w u ps) (hlow : ∀ p ∈ ps, ∀ c ∈ p.1.cols, c.name.size ≤ 1000000) (hT : TabU w) :
    Calls Tryd.prog 12 #[.agg #[.string k, .int .i64 g, u]] w fun e w' => ∃ v', e = .returned (.tuple #[v', .int .i64 (partR k g (ps.map (·.1))).2]) ∧ OwnB w' w.heap.size v' (partR k g (ps.map (·.1))).1 ∧ Ext w w' := by
  have hE0 := (Ext.refl w).alloc (.cells #[.string k, .int .i64 g, u] 24)
  have hbx := BoxAt.made w #[.string k, .int .i64 g, u] 24
  have hin0 := hin.ext hE0
  have hT0 := hT.ext hE0
  obtain ⟨au, cu, rfl, _⟩ := hin.get
  cases hq : ptB k g (ps.map (·.1))
  · have e : Hid (partR k g (ps.map (·.1)) = ([], 1)) := Lib.hid (by unfold partR; rw [hq]; rfl)
    rw [e.out]
    have HQ := Lib.hid hq
    clear hq e
    go_enter Tryd.func12, Tryd.ntmps12
    go_wp2_with (go_at_call 54; go_must (refine (pcheck_gen k g _ ps _ hin0 hlow hT0).mono ?_); rintro e w1 ⟨rfl, hE1⟩; rw [HQ.out])
    go_ret2
    exact ⟨_, rfl, World.ownsRow_nil _ _ _ _, hE0.trans hE1⟩
  · have hok := ptB_ok hq
    have hwl := wholeP_le hok
    have HQ := Lib.hid hq
    have HO := Lib.hid hok
    by_cases hlen : (wholeP k g (ps.map (·.1))).length ≤ 262144
    · have e : Hid (partR k g (ps.map (·.1)) = (wholeP k g (ps.map (·.1)), 0)) := Lib.hid (by unfold partR; rw [hq, if_pos hlen]; rfl)
      rw [e.out]
      obtain ⟨L, hL⟩ : ∃ L, L = wholeP k g (ps.map (·.1)) := ⟨_, rfl⟩
      have hlt : ¬ (262144 : Int) < (L.length : Int) := by rw [hL]; omega
      have HL := Lib.hid hL
      rw [← hL]
      clear hq e hlen hL hwl hok
      go_enter Tryd.func12, Tryd.ntmps12
      go_wp2_with (first
        | (go_at_call 54; go_must (refine (pcheck_gen k g _ ps _ hin0 hlow hT0).mono ?_); rintro e w1 ⟨rfl, hE1⟩; rw [HQ.out]; have hb1 := hbx.ext hE1; have c0 : w1.cell? ⟨w.heap.size, 0, none⟩ = some (.string k) := hb1.cell 0; have c1 : w1.cell? ⟨w.heap.size, 1, none⟩ = some (.int .i64 g) := hb1.cell 1; have c2 : w1.cell? ⟨w.heap.size, 2, none⟩ = some (.slice au ps.length cu) := hb1.cell 2)
        | (go_at_call 55; go_must (refine (pk_whole k g _ ps HO.out _ (hin0.ext hE1)).mono ?_); rintro e w2 ⟨v2, rfl, ho2, hE2⟩; rw [← HL.out] at ho2; have ho2' := ho2; obtain ⟨a2, n2, rfl⟩ := ownB_shapeP ho2'))
      go_ret2
      exact ⟨_, rfl, OwnB.base ho2 (hE0.trans hE1).le, (hE0.trans hE1).trans hE2⟩
    · have e : Hid (partR k g (ps.map (·.1)) = ([], 2)) := Lib.hid (by unfold partR; rw [hq, if_neg hlen]; rfl)
      rw [e.out]
      obtain ⟨L, hL⟩ : ∃ L, L = wholeP k g (ps.map (·.1)) := ⟨_, rfl⟩
      have hlt : decide ((262144 : Int) < (L.length : Int)) = true := by rw [hL]; simp; omega
      have HL := Lib.hid hL
      clear hq e hlen hL hwl hok
      go_enter Tryd.func12, Tryd.ntmps12
      go_wp2_with (first
        | (go_at_call 54; go_must (refine (pcheck_gen k g _ ps _ hin0 hlow hT0).mono ?_); rintro e w1 ⟨rfl, hE1⟩; rw [HQ.out]; have hb1 := hbx.ext hE1; have c0 : w1.cell? ⟨w.heap.size, 0, none⟩ = some (.string k) := hb1.cell 0; have c1 : w1.cell? ⟨w.heap.size, 1, none⟩ = some (.int .i64 g) := hb1.cell 1; have c2 : w1.cell? ⟨w.heap.size, 2, none⟩ = some (.slice au ps.length cu) := hb1.cell 2)
        | (go_at_call 55; go_must (refine (pk_whole k g _ ps HO.out _ (hin0.ext hE1)).mono ?_); rintro e w2 ⟨v2, rfl, ho2, hE2⟩; rw [← HL.out] at ho2; have ho2' := ho2; obtain ⟨a2, n2, rfl⟩ := ownB_shapeP ho2'))
      go_ret2
      exact ⟨_, rfl, World.ownsRow_nil _ _ _ _, (hE0.trans hE1).trans hE2⟩
end Go.Proofs.YtcmgeccgahakbaaDoor

/- pack.Batch of any batch. -/
namespace Go.Proofs.YtcmgeccgahakbaaDoor
open Go Go.RowKit
attribute [local go_sem] yields yUpon

def mutQ (t k : ByteArray) (g : Int) (rs : List Ro) : List UInt8 := num t.size ++ t.data.toList ++ num (wholeP k g rs).length ++ wholeP k g rs
def mutP (m : Mt) : List UInt8 := mutQ m.table m.pa.key m.pa.gone (m.pa.ps.map (·.1))
def notP (n : Nt) : List UInt8 := num n.id.toNat ++ num n.body.size ++ n.body.data.toList
def batP (M : List Mt) (A : List Nt) (D : List Int) : List UInt8 := num M.length ++ M.flatMap mutP ++ num A.length ++ A.flatMap notP ++ num D.length ++ D.flatMap fun d => num d.toNat
/-- What Batch answers. -/
def batR (M : List Mt) (A : List Nt) (D : List Int) : List UInt8 × Int := if cbG M A D then (if (batP M A D).length ≤ 262144 then (batP M A D, 0) else ([], 2)) else ([], 1)

theorem rowP_le8 {r : Ro} (h : rwB r = true) : (rowP r).length ≤ 19000 := by
  have hok := rwB_ok h
  unfold rwB at h
  simp only [Bool.and_eq_true] at h
  obtain ⟨_, _, _, _, _, _, g⟩ := hdB_parts h.1
  have g' := of_decide_eq_false g
  obtain ⟨h1, h2, h3, h4, h5, h6, h7, h8⟩ := hok
  have l1 := num_length (x := r.key.size) (by omega)
  have l2 := cellP_le h2
  have l3 := num_length (x := r.gone.toNat) (by omega)
  have l4 := num_length (x := r.shade.toNat) (by omega)
  have l5 := num_length (x := r.cols.length) (by omega)
  have l6 := flat_le (f := colP) (fun c hc => colP_le (h8 c hc))
  unfold rowP
  simp only [List.length_append, dat_size]
  omega
theorem wholeP_le8 {k : ByteArray} {g : Int} {rs : List Ro} (h : ptB k g rs = true) : (wholeP k g rs).length ≤ 1910000 := by
  have hok := ptB_ok h
  unfold ptB at h
  simp only [Bool.and_eq_true, Bool.not_eq_true'] at h
  obtain ⟨⟨⟨⟨_, _⟩, _⟩, h4⟩, h5⟩ := h
  have d := of_decide_eq_false h4
  obtain ⟨h1, h2, h3, _, _⟩ := hok
  have l1 := num_length (x := k.size) (by omega)
  have l3 := num_length (x := g.toNat) (by omega)
  have l5 := num_length (x := rs.length) (by omega)
  have l6 := flat_le (f := rowP) (fun c hc => rowP_le8 (rsB_ok h5 c hc))
  unfold wholeP
  simp only [List.length_append, dat_size]
  omega
theorem nameB_size {s : ByteArray} (h : nameB s = true) : s.size ≤ 100 := by
  unfold nameB at h
  simp only [Bool.and_eq_true] at h
  exact of_decide_eq_true h.2.2
theorem mutP_le {m : Mt} (h : okMt m = true) : (mutP m).length ≤ 1910200 := by
  unfold okMt at h
  simp only [Bool.and_eq_true] at h
  have h1 := nameB_size h.1
  have h2 := wholeP_le8 h.2
  have l1 := num_length (x := m.table.size) (by omega)
  have l2 := num_length (x := (wholeP m.pa.key m.pa.gone (m.pa.ps.map (·.1))).length) (by omega)
  unfold mutP mutQ
  simp only [List.length_append, dat_size]
  omega
theorem notP_le {n : Nt} (h : okNt n = true) : (notP n).length ≤ 4200 := by
  unfold okNt idB at h
  simp only [Bool.and_eq_true, decide_eq_true_eq] at h
  have l1 := num_length (x := n.id.toNat) (by omega)
  have l2 := num_length (x := n.body.size) (by omega)
  unfold notP
  simp only [List.length_append, dat_size]
  omega
theorem flat_takeD {f : Int → List UInt8} {l : List Int} {k : Nat} (hk : k < l.length) : (l.take (k + 1)).flatMap f = (l.take k).flatMap f ++ f l[k] := flat_take (List.drop_eq_getElem_cons hk)
theorem flat_takeLe {α : Type} {f : α → List UInt8} {n : Nat} {l : List α} {k m : Nat} (h : ∀ c ∈ l, (f c).length ≤ n) (hm : k ≤ m) : ((l.take k).flatMap f).length ≤ m * n := by
  have h1 := flat_le (f := f) (n := n) (l := l.take k) (fun c hc => h c (List.mem_of_mem_take hc))
  have h2 : (l.take k).length ≤ m := by rw [List.length_take]; omega
  exact Nat.le_trans h1 (Nat.mul_le_mul_right n h2)

set_option maxRecDepth 100000 in
set_option maxHeartbeats 2000000 in
theorem batch_bad (vm va vd : Value) (M : List Mt) (A : List Nt) (D : List Int) (w : World) (hT : TabU w) (hM : MtsIn w vm M) (hA : NtsIn w va A) (hD : IntsIn w vd .i64 D) (hMb : ∀ x ∈ M, x.table.size ≤ 1000000 ∧ ∀ p ∈ x.pa.ps, ∀ c ∈ p.1.cols, c.name.size ≤ 1000000) (hAb : ∀ x ∈ A, x.body.size ≤ 1000000) (hc : cbG M A D = false) :
    Calls Tryd.prog 15 #[.agg #[vm, va, vd]] w fun e w' => e = .returned (.tuple #[.slice none 0 0, .int .i64 1]) ∧ Ext w w' := by
  have hE0 := (Ext.refl w).alloc (.cells #[vm, va, vd] 29)
  obtain ⟨am, cm, rfl, _⟩ := hM.get
  obtain ⟨aa, ca, rfl, _⟩ := hA.get
  have hD' := hD
  obtain ⟨ad, cd, rfl, _⟩ := hD'
  have HC := Lib.hid hc
  have HMb := Lib.hid hMb
  have HAb := Lib.hid hAb
  clear hc hMb hAb
  go_enter Tryd.func15, Tryd.ntmps15
  go_wp2_with (go_at_call 24; go_must (refine (cb_gen _ _ _ M A D _ (hT.ext hE0) (hM.ext hE0) (hA.ext hE0) (hD.ext hE0) HMb.out HAb.out).mono ?_); rintro e w1 ⟨rfl, hE1⟩; rw [HC.out])
  go_ret2
  exact ⟨rfl, hE0.trans hE1⟩

set_option maxRecDepth 100000 in
set_option maxHeartbeats 8000000 in
theorem batch_good (vm va vd : Value) (M : List Mt) (A : List Nt) (D : List Int) (w : World) (hT : TabU w) (hM : MtsIn w vm M) (hA : NtsIn w va A) (hD : IntsIn w vd .i64 D) (hMb : ∀ x ∈ M, x.table.size ≤ 1000000 ∧ ∀ p ∈ x.pa.ps, ∀ c ∈ p.1.cols, c.name.size ≤ 1000000) (hAb : ∀ x ∈ A, x.body.size ≤ 1000000) (hc : cbG M A D = true) :
    Calls Tryd.prog 15 #[.agg #[vm, va, vd]] w fun e w' => ∃ v', e = .returned (.tuple #[v', .int .i64 (batR M A D).2]) ∧ OwnB w' w.heap.size v' (batR M A D).1 ∧ Ext w w' := by
  have hE0 := (Ext.refl w).alloc (.cells #[vm, va, vd] 29)
  have hbx := BoxAt.made w #[vm, va, vd] 29
  have HROW := Lib.hid hM.rows
  obtain ⟨am, cm, rfl, hcm, hcmm, hgm⟩ := hM.get
  obtain ⟨aa, ca, rfl, hca, hcma, hga⟩ := hA.get
  have hD' := hD
  obtain ⟨ad, cd, rfl, hcd, hcmd, _, hgd⟩ := hD'
  unfold maxLen at hcmd
  have hcp := hc
  unfold cbG at hcp
  simp only [Bool.and_eq_true, decide_eq_true_eq, List.all_eq_true] at hcp
  obtain ⟨⟨⟨⟨⟨z1, z2⟩, z3⟩, hMo⟩, hAo⟩, hDo⟩ := hcp
  have HGM := Lib.hid hgm
  have HGA := Lib.hid hga
  have HGD := Lib.hid hgd
  have HC := Lib.hid hc
  have HMB := Lib.hid hMo
  have HAB := Lib.hid hAo
  have HDB := Lib.hid hDo
  have HCB := fun (w1 : World) (hE : Ext w w1) => Lib.hid (cb_gen _ _ _ M A D w1 (hT.ext hE) (hM.ext hE) (hA.ext hE) (hD.ext hE) hMb hAb)
  obtain ⟨RB, hRB⟩ : ∃ R, R = batR M A D := ⟨_, rfl⟩
  rw [← hRB]
  have HBR : Hid (RB = if (batP M A D).length ≤ 262144 then (batP M A D, 0) else ([], 2)) := Lib.hid (by rw [hRB]; unfold batR; rw [hc]; rfl)
  clear hRB
  clear hgm hga hgd hc hMb hAb hMo hAo hDo hT hM hA hD
  obtain ⟨mn, hmn⟩ : ∃ n, n = M.length := ⟨_, rfl⟩
  obtain ⟨an, han⟩ : ∃ n, n = A.length := ⟨_, rfl⟩
  obtain ⟨dn, hdn⟩ : ∃ n, n = D.length := ⟨_, rfl⟩
  rw [← hmn] at hcm z1 hbx hE0 ⊢
  rw [← han] at hca z2 hbx hE0 ⊢
  rw [← hdn] at hcd z3 hbx hE0 ⊢
  rw [← hmn, ← han, ← hdn] at HCB
  have HMN := Lib.hid hmn
  have HAN := Lib.hid han
  have HDN := Lib.hid hdn
  have HMT := Lib.hid (fun k (hk : k ≤ 64) => flat_takeLe (f := mutP) (l := M) (k := k) (m := 64) (fun m hm => mutP_le (HMB.out m hm)) hk)
  have HAT := Lib.hid (fun k (hk : k ≤ 300) => flat_takeLe (f := notP) (l := A) (k := k) (m := 300) (fun m hm => notP_le (HAB.out m hm)) hk)
  have HDT := Lib.hid (fun k (hk : k ≤ 300) => flat_takeLe (f := fun d : Int => num d.toNat) (l := D) (k := k) (m := 300) (n := 9) (fun d hd => num_length (by have := HDB.out d hd; unfold idB at this; simp at this; omega)) hk)
  obtain ⟨B0, hB0⟩ : ∃ B, B = num mn := ⟨_, rfl⟩
  have hB0l : B0.length ≤ 9 := by rw [hB0]; exact num_length (by omega)
  obtain ⟨B1, hB1⟩ : ∃ B, B = B0 ++ M.flatMap mutP ++ num an := ⟨_, rfl⟩
  have hB1l : B1.length ≤ 123000000 := by
    have h1 := HMT.out 64 (Nat.le_refl _)
    rw [List.take_of_length_le (by omega)] at h1
    have h2 := num_length (x := an) (by omega)
    rw [hB1]; simp only [List.length_append]; omega
  obtain ⟨B2, hB2⟩ : ∃ B, B = B1 ++ A.flatMap notP ++ num dn := ⟨_, rfl⟩
  have hB2l : B2.length ≤ 125000000 := by
    have h1 := HAT.out 300 (Nat.le_refl _)
    rw [List.take_of_length_le (by omega)] at h1
    have h2 := num_length (x := dn) (by omega)
    rw [hB2]; simp only [List.length_append]; omega
  have HBP : Hid (batP M A D = B2 ++ D.flatMap fun d => num d.toNat) := Lib.hid (by rw [hB2, hB1, hB0, hmn, han, hdn]; unfold batP; simp only [List.append_assoc])
  have H0 := Lib.hid hB0
  have H1 := Lib.hid hB1
  have H2 := Lib.hid hB2
  clear hmn han hdn hB0 hB1 hB2
  go_enter Tryd.func15, Tryd.ntmps15
  go_wp2_with (first
    | (go_at_call 24; go_must (refine (HCB _ hE0).out.mono ?_); rintro e w1 ⟨rfl, hE1⟩; rw [HC.out]; have hb1 := hbx.ext hE1; have c0 : w1.cell? ⟨w.heap.size, 0, none⟩ = some (.slice am mn cm) := hb1.cell 0)
    | (go_at_call 58; go_must (refine (pk_number _ [] (mn : Int) (by omega) (by omega) w1 (SliceIn.nil _) (by simp)).mono ?_); rintro e w2 ⟨v2, rfl, ho2, hE2⟩; rw [List.nil_append, Int.toNat_natCast, ← H0.out] at ho2; have hb2 := hb1.ext hE2; have d0 : w2.cell? ⟨w.heap.size, 0, none⟩ = some (.slice am mn cm) := hb2.cell 0))
  have hEw2 := (hE0.trans hE1).trans hE2
  clear c0 d0
  replace ho2 := OwnB.base ho2 (hE0.trans hE1).le
  go_loopw [4, 21] (fun o i wr => ∃ k : Nat, k ≤ mn ∧ i = .int .i64 (k : Int) ∧ OwnB wr w.heap.size o (B0 ++ (M.take k).flatMap mutP) ∧ Ext w2 wr) (fun _ i _ => mn - (intOf i).toNat)
  case atStart => exact ⟨0, Nat.zero_le _, rfl, by simpa using ho2, Ext.refl w2⟩
  case round =>
    rename_i o0 _ _
    obtain ⟨k, hk, rfl, hF, hE⟩ := hrel
    have hEw := hEw2.trans hE
    by_cases hlt : k < mn
    · have hkF : k < M.length := by rw [← HMN.out]; exact hlt
      obtain ⟨b, o, rfl, ⟨g0, g1, g2, g3⟩⟩ := HGM.out k hkF
      obtain ⟨ra, rc, hrv⟩ : ∃ a c, (M[k]).pa.rv = .slice a (M[k]).pa.ps.length c := let ⟨a, c, e, _⟩ := (HROW.out _ (List.getElem_mem hkF)).get; ⟨a, c, e⟩
      have hrw := HROW.out _ (List.getElem_mem hkF)
      rw [hrv] at g3 hrw
      replace g0 := hEw.cell g0
      replace g1 := hEw.cell g1
      replace g2 := hEw.cell g2
      replace g3 := hEw.cell g3
      have hok := HMB.out _ (List.getElem_mem hkF)
      unfold okMt at hok
      simp only [Bool.and_eq_true] at hok
      have htl := HMT.out k (by omega)
      have htk : Hid (B0 ++ (M.take (k + 1)).flatMap mutP = B0 ++ (M.take k).flatMap mutP ++ num (M[k]).table.size ++ (M[k]).table.data.toList ++ num (wholeP (M[k]).pa.key (M[k]).pa.gone ((M[k]).pa.ps.map (·.1))).length ++ wholeP (M[k]).pa.key (M[k]).pa.gone ((M[k]).pa.ps.map (·.1))) := Lib.hid (by
        rw [flat_take (f := mutP) (List.drop_eq_getElem_cons hkF)]
        unfold mutP mutQ
        simp only [List.append_assoc])
      obtain ⟨N1, hN1⟩ : ∃ N, N = B0 ++ (M.take (k + 1)).flatMap mutP := ⟨_, rfl⟩
      rw [← hN1] at htk
      have HN1 := Lib.hid hN1
      clear hN1
      obtain ⟨t, ht⟩ : ∃ t, t = (M[k]).table := ⟨_, rfl⟩
      obtain ⟨ky, hky⟩ : ∃ t, t = (M[k]).pa.key := ⟨_, rfl⟩
      obtain ⟨gn, hgn⟩ : ∃ t, t = (M[k]).pa.gone := ⟨_, rfl⟩
      obtain ⟨ps, hps⟩ : ∃ t, t = (M[k]).pa.ps := ⟨_, rfl⟩
      rw [← ht] at g0 hok htk
      rw [← hky] at g1 hok htk
      rw [← hgn] at g2 hok htk
      rw [← hps] at g3 hrw hok htk
      obtain ⟨rn, hrn⟩ : ∃ n, n = ps.length := ⟨_, rfl⟩
      rw [← hrn] at g3 hrw
      have q1 := nameB_size hok.1
      have HOP := Lib.hid (ptB_ok hok.2)
      have hwl := wholeP_le8 hok.2
      clear ht hky hgn hps hrv hrn hok
      have hEb := (Ext.refl wr).alloc (.cells #[.string t, .string ky, .int .i64 gn, .slice ra rn rc] 64)
      have hbm := BoxAt.made wr #[.string t, .string ky, .int .i64 gn, .slice ra rn rc] 64
      have hFb := hF.ext hEb
      have hEwb := hEw.trans hEb
      obtain ⟨Wh, hWh⟩ : ∃ L, L = wholeP ky gn (ps.map (·.1)) := ⟨_, rfl⟩
      have hws : (str Wh).size = Wh.length := str_size _
      have HWH := Lib.hid hWh
      rw [← hWh] at hwl htk
      obtain ⟨L, hL⟩ : ∃ L, L = B0 ++ (M.take k).flatMap mutP := ⟨_, rfl⟩
      have hLl : L.length ≤ 123000000 := by rw [hL, List.length_append]; omega
      rw [← hL] at hFb htk
      obtain ⟨L1, hL1⟩ : ∃ X, X = L ++ num t.size ++ t.data.toList := ⟨_, rfl⟩
      have hL1l : L1.length ≤ 123000200 := by
        have := num_length (x := t.size) (by omega)
        rw [hL1]; simp only [List.length_append, dat_size]; omega
      have HL1 := Lib.hid hL1
      rw [← hL1] at htk
      have t1 : decide ((k : Int) < (mn : Int)) = true := by simp; omega
      clear hWh hL hL1 htl
      go_wp2_with fail
      refine wp_region_tab 10 [(3, fun v x => OwnB x w.heap.size v L1), (6, fun v x => OwnB x w.heap.size v Wh), (7, fun v _ => v = .string (str Wh)), (8, fun v x => OwnB x w.heap.size v N1)] (by kernel_rfl) (by kernel_rfl) (by kernel_rfl) ⟨fun _ _ _ hE h => OwnB.ext h hE, fun _ _ _ hE h => OwnB.ext h hE, stays_eq _, fun _ _ _ hE h => OwnB.ext h hE, trivial⟩ ?_
      have x0 := held (show (wr.alloc (.cells #[.string t, .string ky, .int .i64 gn, .slice ra rn rc] 64)).cell? ⟨wr.heap.size, 0, none⟩ = some (.string t) from hbm.cell 0)
      have x1 := held (show (wr.alloc (.cells #[.string t, .string ky, .int .i64 gn, .slice ra rn rc] 64)).cell? ⟨wr.heap.size, 1, none⟩ = some (.string ky) from hbm.cell 1)
      have x2 := held (show (wr.alloc (.cells #[.string t, .string ky, .int .i64 gn, .slice ra rn rc] 64)).cell? ⟨wr.heap.size, 2, none⟩ = some (.int .i64 gn) from hbm.cell 2)
      have x3 := held (show (wr.alloc (.cells #[.string t, .string ky, .int .i64 gn, .slice ra rn rc] 64)).cell? ⟨wr.heap.size, 3, none⟩ = some (.slice ra rn rc) from hbm.cell 3)
      refine rg_quiet rfl rfl rfl rfl ?_; intro K hK; go_big_quiet_op; go_big_quiet_on
      refine rg_quiet rfl rfl rfl rfl ?_; intro K hK; go_big_quiet_op; go_big_quiet_on
      refine rg_quiet rfl rfl rfl rfl ?_; intro K hK; go_big_quiet_op; go_big_quiet_on
      refine rg_fact [] rfl rfl rfl (by kernel_rfl) (fun y hE hf => ?_) (fun v3 y3 hE3 hG3 h3 => ?_)
      · go_simp
        refine (pk_text _ L t (by omega) y (OwnB.bytes (hFb.ext hE)) (by omega)).mono ?_
        rintro e w' ⟨v', rfl, ho, hw⟩
        exact ⟨_, rfl, rg_doneR hE hw (by rw [HL1.out]; exact ho.base (hEwb.trans hE).le)⟩
      obtain ⟨a3, n3, rfl⟩ := ownB_shapeP h3
      clear hE3 hG3 h3
      simp only [Act.put, List.setIfInBounds_toArray, List.set_cons_zero, List.set_cons_succ]
      refine rg_quiet rfl rfl rfl rfl ?_; intro K hK; go_big_quiet_op; go_big_quiet_on
      refine rg_quiet rfl rfl rfl rfl ?_; intro K hK; go_big_quiet_op; go_big_quiet_on
      refine rg_fact [] rfl rfl rfl (by kernel_rfl) (fun y hE hf => ?_) (fun v6 y6 hE6 hG6 h6 => ?_)
      · go_simp
        refine (pk_whole ky gn _ ps HOP.out y (hrw.ext (hEwb.trans hE))).mono ?_
        rintro e w' ⟨v', rfl, ho, hw⟩
        exact ⟨_, rfl, rg_doneR hE hw (by rw [HWH.out]; exact ho.base (hEwb.trans hE).le)⟩
      obtain ⟨a6, n6, rfl⟩ := ownB_shapeP h6
      clear hE6 hG6 h6
      simp only [Act.put, List.setIfInBounds_toArray, List.set_cons_zero, List.set_cons_succ]
      refine rg_text [6] 33 9 5 (.tmp 31) Wh rfl rfl rfl rfl (by kernel_rfl) und_bytes und_u8 und_string (fun y hE hf => OwnB.bytes ((hf 6 (by simp)).2 rfl)) ?_
      simp only [Act.put, List.setIfInBounds_toArray, List.set_cons_zero, List.set_cons_succ]
      refine rg_fact [3] rfl rfl rfl (by kernel_rfl) (fun y hE hf => ?_) (fun v8 y8 hE8 hG8 h8 => ?_)
      · have h3 := (hf 3 (by simp)).1.2 rfl
        go_simp
        refine (pk_text _ L1 (str Wh) (by omega) y (OwnB.bytes h3) (by omega)).mono ?_
        rintro e w' ⟨v', rfl, ho, hw⟩
        rw [hws] at ho
        exact ⟨_, rfl, rg_doneR hE hw (by rw [htk.out]; exact ho.base (hEwb.trans hE).le)⟩
      clear hE8 hG8 h8
      simp only [Act.put, List.setIfInBounds_toArray, List.set_cons_zero, List.set_cons_succ]
      refine rg_quiet rfl rfl rfl rfl ?_; intro K hK; go_big_quiet_op; go_big_quiet_on
      refine rel_nil fun w5 hE5 hG => ?_
      have h8 := (hG 8).2 rfl
      clear x0 x1 x2 x3 hG
      go_wp2_with fail
      go_roundw
      case rel => exact ⟨k + 1, by omega, by go_num, by rw [← HN1.out]; exact h8, (hE.trans hEb).trans hE5⟩
      case measure => simp [intOf]; omega
    · obtain rfl : k = mn := by omega
      have hb3 := hb2.ext hE
      have c1 : wr.cell? ⟨w.heap.size, 1, none⟩ = some (.slice aa an ca) := hb3.cell 1
      rw [List.take_of_length_le (by rw [HMN.out]; exact Nat.le_refl _)] at hF
      obtain ⟨L, hL⟩ : ∃ L, L = B0 ++ M.flatMap mutP := ⟨_, rfl⟩
      have hLl : L.length ≤ 123000000 := by
        have h1 := HMT.out 64 (Nat.le_refl _)
        rw [List.take_of_length_le (by rw [← HMN.out]; omega)] at h1
        rw [hL, List.length_append]; omega
      rw [← hL] at hF
      have HL := Lib.hid hL
      clear hL
      go_wp2_with (go_at_call 58; go_must (refine (pk_number _ L (an : Int) (by omega) (by omega) wr (OwnB.bytes hF) (by omega)).mono ?_); rintro e w3 ⟨v3, rfl, ho3, hE3⟩; rw [Int.toNat_natCast, HL.out, ← H1.out] at ho3; have hb4 := hb3.ext hE3; have d1 : w3.cell? ⟨w.heap.size, 1, none⟩ = some (.slice aa an ca) := hb4.cell 1)
      have hEw3 := hEw.trans hE3
      replace ho3 := OwnB.base ho3 hEw.le
      clear c1 d1
      go_loopw [4, 43] (fun o i wr => ∃ k : Nat, k ≤ an ∧ i = .int .i64 (k : Int) ∧ OwnB wr w.heap.size o (B1 ++ (A.take k).flatMap notP) ∧ Ext w3 wr) (fun _ i _ => an - (intOf i).toNat)
      case atStart => exact ⟨0, Nat.zero_le _, rfl, by simpa using ho3, Ext.refl w3⟩
      case round =>
        obtain ⟨j, hj, rfl, hF2, hE4⟩ := hrel
        have hEv := hEw3.trans hE4
        by_cases hlt2 : j < an
        · have hkF : j < A.length := by rw [← HAN.out]; exact hlt2
          obtain ⟨b, o, rfl, g0, g1⟩ := HGA.out j hkF
          replace g0 := hEv.cell g0
          replace g1 := hEv.cell g1
          have hok := HAB.out _ (List.getElem_mem hkF)
          unfold okNt idB at hok
          simp only [Bool.and_eq_true, decide_eq_true_eq] at hok
          have htl := HAT.out j (by omega)
          have htk : Hid (B1 ++ (A.take (j + 1)).flatMap notP = B1 ++ (A.take j).flatMap notP ++ num (A[j]).id.toNat ++ num (A[j]).body.size ++ (A[j]).body.data.toList) := Lib.hid (by
            rw [flat_take (f := notP) (List.drop_eq_getElem_cons hkF)]
            unfold notP
            simp only [List.append_assoc])
          obtain ⟨N1, hN1⟩ : ∃ N, N = B1 ++ (A.take (j + 1)).flatMap notP := ⟨_, rfl⟩
          rw [← hN1] at htk
          have HN1 := Lib.hid hN1
          clear hN1
          obtain ⟨x, hx⟩ : ∃ t, t = (A[j]).id := ⟨_, rfl⟩
          obtain ⟨bd, hbd⟩ : ∃ t, t = (A[j]).body := ⟨_, rfl⟩
          rw [← hx] at g0 hok htk
          rw [← hbd] at g1 hok htk
          clear hx hbd
          obtain ⟨⟨q1, q2⟩, q3⟩ := hok
          have hEb := (Ext.refl wr).alloc (.cells #[.int .i64 x, .string bd] 94)
          have hbn := BoxAt.made wr #[.int .i64 x, .string bd] 94
          have hFb := hF2.ext hEb
          have hEvb := hEv.trans hEb
          obtain ⟨L2, hL2⟩ : ∃ L, L = B1 ++ (A.take j).flatMap notP := ⟨_, rfl⟩
          have hL2l : L2.length ≤ 125000000 := by rw [hL2, List.length_append]; omega
          rw [← hL2] at hFb htk
          obtain ⟨L1, hL1⟩ : ∃ X, X = L2 ++ num x.toNat := ⟨_, rfl⟩
          have hL1l : L1.length ≤ 125000200 := by
            have := num_length (x := x.toNat) (by omega)
            rw [hL1]; simp only [List.length_append]; omega
          have HL1 := Lib.hid hL1
          rw [← hL1] at htk
          have t1 : decide ((j : Int) < (an : Int)) = true := by simp; omega
          clear hL2 hL1 htl
          go_wp2_with fail
          refine wp_region_tab 8 [(3, fun v x => OwnB x w.heap.size v L1), (6, fun v x => OwnB x w.heap.size v N1)] (by kernel_rfl) (by kernel_rfl) (by kernel_rfl) ⟨fun _ _ _ hE h => OwnB.ext h hE, fun _ _ _ hE h => OwnB.ext h hE, trivial⟩ ?_
          have x0 := held (show (wr.alloc (.cells #[.int .i64 x, .string bd] 94)).cell? ⟨wr.heap.size, 0, none⟩ = some (.int .i64 x) from hbn.cell 0)
          have x1 := held (show (wr.alloc (.cells #[.int .i64 x, .string bd] 94)).cell? ⟨wr.heap.size, 1, none⟩ = some (.string bd) from hbn.cell 1)
          refine rg_quiet rfl rfl rfl rfl ?_; intro K hK; go_big_quiet_op; go_big_quiet_on
          refine rg_quiet rfl rfl rfl rfl ?_; intro K hK; go_big_quiet_op; go_big_quiet_on
          refine rg_quiet rfl rfl rfl rfl ?_; intro K hK; go_big_quiet_op; go_big_quiet_on
          refine rg_fact [] rfl rfl rfl (by kernel_rfl) (fun y hE hf => ?_) (fun v3 y3 hE3 hG3 h3 => ?_)
          · go_simp
            refine (pk_number _ L2 x (by omega) (by omega) y (OwnB.bytes (hFb.ext hE)) (by omega)).mono ?_
            rintro e w' ⟨v', rfl, ho, hw⟩
            exact ⟨_, rfl, rg_doneR hE hw (by rw [HL1.out]; exact ho.base (hEvb.trans hE).le)⟩
          clear hE3 hG3 h3
          simp only [Act.put, List.setIfInBounds_toArray, List.set_cons_zero, List.set_cons_succ]
          refine rg_quiet rfl rfl rfl rfl ?_; intro K hK; go_big_quiet_op; go_big_quiet_on
          refine rg_quiet rfl rfl rfl rfl ?_; intro K hK; go_big_quiet_op; go_big_quiet_on
          refine rg_fact [3] rfl rfl rfl (by kernel_rfl) (fun y hE hf => ?_) (fun v6 y6 hE6 hG6 h6 => ?_)
          · have h3 := (hf 3 (by simp)).2 rfl
            go_simp
            refine (pk_text _ L1 bd (by omega) y (OwnB.bytes h3) (by omega)).mono ?_
            rintro e w' ⟨v', rfl, ho, hw⟩
            exact ⟨_, rfl, rg_doneR hE hw (by rw [htk.out]; exact ho.base (hEvb.trans hE).le)⟩
          clear hE6 hG6 h6
          simp only [Act.put, List.setIfInBounds_toArray, List.set_cons_zero, List.set_cons_succ]
          refine rg_quiet rfl rfl rfl rfl ?_; intro K hK; go_big_quiet_op; go_big_quiet_on
          refine rel_nil fun w5 hE5 hG => ?_
          have h6 := (hG 6).2 rfl
          clear x0 x1 hG
          go_wp2_with fail
          go_roundw
          case rel => exact ⟨j + 1, by omega, by go_num, by rw [← HN1.out]; exact h6, (hE4.trans hEb).trans hE5⟩
          case measure => simp [intOf]; omega
        · obtain rfl : j = an := by omega
          have hb5 := hb4.ext hE4
          have c2 : wr.cell? ⟨w.heap.size, 2, none⟩ = some (.slice ad dn cd) := hb5.cell 2
          rw [List.take_of_length_le (by rw [HAN.out]; exact Nat.le_refl _)] at hF2
          obtain ⟨L2, hL2⟩ : ∃ L, L = B1 ++ A.flatMap notP := ⟨_, rfl⟩
          have hL2l : L2.length ≤ 125000000 := by
            have h1 := HAT.out 300 (Nat.le_refl _)
            rw [List.take_of_length_le (by rw [← HAN.out]; omega)] at h1
            rw [hL2, List.length_append]; omega
          rw [← hL2] at hF2
          have HL2 := Lib.hid hL2
          clear hL2
          go_wp2_with (go_at_call 58; go_must (refine (pk_number _ L2 (dn : Int) (by omega) (by omega) wr (OwnB.bytes hF2) (by omega)).mono ?_); rintro e w4 ⟨v4, rfl, ho4, hE5⟩; rw [Int.toNat_natCast, HL2.out, ← H2.out] at ho4; have hb6 := hb5.ext hE5; have d2 : w4.cell? ⟨w.heap.size, 2, none⟩ = some (.slice ad dn cd) := hb6.cell 2)
          have hEw4 := hEv.trans hE5
          replace ho4 := OwnB.base ho4 hEv.le
          clear c2 d2
          go_loopw [4, 63] (fun o i wr => ∃ k : Nat, k ≤ dn ∧ i = .int .i64 (k : Int) ∧ OwnB wr w.heap.size o (B2 ++ (D.take k).flatMap fun d => num d.toNat) ∧ Ext w4 wr) (fun _ i _ => dn - (intOf i).toNat)
          case atStart => exact ⟨0, Nat.zero_le _, rfl, by simpa using ho4, Ext.refl w4⟩
          case round =>
            obtain ⟨d, hd, rfl, hF3, hE6⟩ := hrel
            have hEu := hEw4.trans hE6
            by_cases hlt3 : d < dn
            · have hkF : d < D.length := by rw [← HDN.out]; exact hlt3
              obtain ⟨b, o, rfl, g0⟩ := HGD.out d (.int .i64 D[d]) (by rw [kcells_get, List.getElem?_eq_getElem hkF]; rfl)
              replace g0 := hEu.cell g0
              have hok := HDB.out _ (List.getElem_mem hkF)
              unfold idB at hok
              simp only [Bool.and_eq_true, decide_eq_true_eq] at hok
              have htl := HDT.out d (by omega)
              have htk := Lib.hid (flat_takeD (f := fun d : Int => num d.toNat) hkF)
              obtain ⟨L3, hL3⟩ : ∃ L, L = B2 ++ (D.take d).flatMap fun d => num d.toNat := ⟨_, rfl⟩
              have hL3l : L3.length ≤ 125010000 := by rw [hL3, List.length_append]; omega
              rw [← hL3] at hF3
              have HL3 := Lib.hid hL3
              obtain ⟨x, hx⟩ : ∃ t, t = D[d] := ⟨_, rfl⟩
              rw [← hx] at g0 hok htk
              clear hx hL3 htl
              have t1 : decide ((d : Int) < (dn : Int)) = true := by simp; omega
              go_wp2_with (go_at_call 58; go_must (refine (pk_number _ L3 x (by omega) (by omega) wr (OwnB.bytes hF3) (by omega)).mono ?_); rintro e w7 ⟨v7, rfl, ho7, hE7⟩)
              go_roundw
              case rel =>
                refine ⟨d + 1, by omega, by go_num, ?_, hE6.trans hE7⟩
                rw [htk.out, ← List.append_assoc, ← HL3.out]
                exact OwnB.base ho7 hEu.le
              case measure => simp [intOf]; omega
            · obtain rfl : d = dn := by omega
              rw [List.take_of_length_le (by rw [HDN.out]; exact Nat.le_refl _), ← HBP.out] at hF3
              obtain ⟨L, hL⟩ : ∃ L, L = batP M A D := ⟨_, rfl⟩
              rw [← hL] at hF3
              have hF4 := hF3
              obtain ⟨ax, cx, rfl⟩ := ownB_shapeP hF4
              by_cases hlen : L.length ≤ 262144
              · have hlt : ¬ (262144 : Int) < (L.length : Int) := by omega
                have e1 : Hid (RB = (L, 0)) := Lib.hid (by rw [HBR.out, ← hL, if_pos hlen])
                clear hL
                go_wp2_with fail
                go_ret2
                exact ⟨.slice ax L.length cx, by rw [e1.out]; rfl, by rw [e1.out]; exact hF3, hEu⟩
              · have hlt : decide ((262144 : Int) < (L.length : Int)) = true := decide_eq_true (by omega)
                have e1 : Hid (RB = ([], 2)) := Lib.hid (by rw [HBR.out, ← hL, if_neg hlen])
                clear hL
                go_wp2_with fail
                go_ret2
                exact ⟨.slice none 0 0, by rw [e1.out]; rfl, by rw [e1.out]; exact World.ownsRow_nil _ _ _ _, hEu⟩

theorem batch_gen (vm va vd : Value) (M : List Mt) (A : List Nt) (D : List Int) (w : World) (hT : TabU w) (hM : MtsIn w vm M) (hA : NtsIn w va A) (hD : IntsIn w vd .i64 D) (hMb : ∀ x ∈ M, x.table.size ≤ 1000000 ∧ ∀ p ∈ x.pa.ps, ∀ c ∈ p.1.cols, c.name.size ≤ 1000000) (hAb : ∀ x ∈ A, x.body.size ≤ 1000000) :
    Calls Tryd.prog 15 #[.agg #[vm, va, vd]] w fun e w' => ∃ v', e = .returned (.tuple #[v', .int .i64 (batR M A D).2]) ∧ OwnB w' w.heap.size v' (batR M A D).1 ∧ Ext w w' := by
  cases hc : cbG M A D
  · have e : batR M A D = ([], 1) := by unfold batR; rw [hc]; rfl
    rw [e]
    refine (batch_bad vm va vd M A D w hT hM hA hD hMb hAb hc).mono ?_
    rintro e w' ⟨rfl, hE⟩
    exact ⟨_, rfl, World.ownsRow_nil _ _ _ _, hE⟩
  · exact batch_good vm va vd M A D w hT hM hA hD hMb hAb hc
end Go.Proofs.YtcmgeccgahakbaaDoor

/- Batches as plain data: what pack's reader makes of bytes; what may be; the bytes of it. -/
namespace Go.Proofs.YtcmgeccgahakbaaDoor
open Go Go.RowKit

/-- A mutation, whatever its memory. -/
structure Mq where
  table : ByteArray
  pt : Pt
def Mt.q (m : Mt) : Mq := ⟨m.table, ⟨m.pa.key, m.pa.gone, m.pa.ps.map (·.1)⟩⟩
def mutR (B : List UInt8) (s : Nat × Int) : Mq × (Nat × Int) :=
  (⟨(txtR B s).1, (prtR (txtR B (txtR B s).2).1.data.toList (0, (txtR B (txtR B s).2).2.2)).1⟩, failR (prtR (txtR B (txtR B s).2).1.data.toList (0, (txtR B (txtR B s).2).2.2)).2.2 (txtR B (txtR B s).2).2)
def noteR (B : List UInt8) (s : Nat × Int) : Nt × (Nat × Int) := (⟨((numR B s).1 : Int), (txtR B (numR B s).2).1⟩, (txtR B (numR B s).2).2)
def numIR (B : List UInt8) (s : Nat × Int) : Int × (Nat × Int) := (((numR B s).1 : Int), (numR B s).2)
structure Bt where
  muts : List Mq
  add : List Nt
  drop : List Int
def btR (B : List UInt8) (s : Nat × Int) : Bt × (Nat × Int) :=
  (⟨(listR B (mutR B) s).1, (listR B (noteR B) (listR B (mutR B) s).2).1, (listR B (numIR B) (listR B (noteR B) (listR B (mutR B) s).2).2).1⟩,
   endR B (listR B (numIR B) (listR B (noteR B) (listR B (mutR B) s).2).2).2)
def okMq (x : Mq) : Bool := nameB x.table && ptB x.pt.key x.pt.gone x.pt.rows
def cbQ (b : Bt) : Bool := decide (b.muts.length ≤ 64) && decide (b.add.length ≤ 300) && decide (b.drop.length ≤ 300) && b.muts.all okMq && b.add.all okNt && b.drop.all idB
theorem cbG_q (M : List Mt) (A : List Nt) (D : List Int) : cbG M A D = cbQ ⟨M.map Mt.q, A, D⟩ := by
  unfold cbG cbQ
  simp only [List.length_map, List.all_map]
  rfl
def mutE (x : Mq) : List UInt8 := mutQ x.table x.pt.key x.pt.gone x.pt.rows
def batQ (b : Bt) : List UInt8 := num b.muts.length ++ b.muts.flatMap mutE ++ num b.add.length ++ b.add.flatMap notP ++ num b.drop.length ++ b.drop.flatMap fun d => num d.toNat
theorem batP_q (M : List Mt) (A : List Nt) (D : List Int) : batP M A D = batQ ⟨M.map Mt.q, A, D⟩ := by
  unfold batP batQ
  simp only [List.length_map, List.flatMap_map]
  rfl
/-- What GetBatch answers. -/
def gB (l : List UInt8) : Bt × (Nat × Int) := btR l (0, if l.length ≤ 262144 then 0 else 2)
def gbErr (l : List UInt8) : Int := if (gB l).2.2 = 0 then (if cbQ (gB l).1 then 0 else 1) else (gB l).2.2
def gbBt (l : List UInt8) : Bt := if gbErr l = 0 then (gB l).1 else ⟨[], [], []⟩

theorem mutR_low (B : List UInt8) (s : Nat × Int) : (mutR B s).1.table.size ≤ B.length ∧ ∀ r ∈ (mutR B s).1.pt.rows, ∀ c ∈ r.cols, c.name.size ≤ B.length := by
  refine ⟨txtR_size B s, fun r hr c hc => ?_⟩
  have h1 := prtR_low (txtR B (txtR B s).2).1.data.toList (0, (txtR B (txtR B s).2).2.2) r hr c hc
  have h2 := txtR_size B (txtR B s).2
  rw [dat_size] at h1
  omega
theorem btR_low (B : List UInt8) (s : Nat × Int) : (∀ x ∈ (btR B s).1.muts, x.table.size ≤ B.length ∧ ∀ r ∈ x.pt.rows, ∀ c ∈ r.cols, c.name.size ≤ B.length) ∧ ∀ n ∈ (btR B s).1.add, n.body.size ≤ B.length :=
  ⟨manyR_all (P := fun x : Mq => x.table.size ≤ B.length ∧ ∀ r ∈ x.pt.rows, ∀ c ∈ r.cols, c.name.size ≤ B.length) (fun s => mutR_low B s) _ _, manyR_all (P := fun n : Nt => n.body.size ≤ B.length) (fun s => txtR_size B (numR B s).2) _ _⟩
end Go.Proofs.YtcmgeccgahakbaaDoor
