/- Small laws of steps and of the views they are put into (what a smaller cut has). -/
import Derived.Test.YtolkhjdododdaaaGreatP30
import Derived.Test.YtolkhjdododdaaaGreatP26
import Derived.Test.YtolkhjdododdaaaGreatP33
import Derived.Test.YtolkhjdododdaaaGreatP12
import Derived.Test.YtolkhjdododdaaaGreatP5
import Derived.Test.YtolkhjdododdaaaGreatP28
import Derived.Test.YtolkhjdododdaaaGreatP14
import Derived.Test.YtolkhjdododdaaaGreatP8
import Derived.Test.YtolkhjdododdaaaGreatP22
import Derived.Test.YtolkhjdododdaaaGreatP13
set_option linter.unusedSimpArgs false
set_option linter.unusedVariables false
namespace Go.Proofs.YtolkhjdododdaaaGreat
open Go Go.RowKit

theorem ik_small9 (i : Nat) (h : i < 4) : (ik i).size ≤ 10 ∧ (vkey ⟨#[109]⟩ (ik i)).size ≤ 400 := by
  obtain rfl | rfl | rfl | rfl : i = 0 ∨ i = 1 ∨ i = 2 ∨ i = 3 := by omega
  all_goals decide
theorem nmK_size (j : Nat) (h : j < 4) : (nmK j).size ≤ 300 := by
  obtain rfl | rfl | rfl | rfl : j = 0 ∨ j = 1 ∨ j = 2 ∨ j = 3 := by omega
  all_goals decide
theorem parts_keep {x y : World} {v : Value} {L : List Pa} {vo : Value} {B n : Nat} {xs : List Value} (hown : x.ownsRow B 39 3 vo n xs) (hg : x.grownBy y vo.ownBlock) (h : PartsT x v L) (hne : ∀ q, v.ownBlock = some q → vo.ownBlock ≠ some q) : PartsT y v L := by
  refine ⟨?_, fun p hp => (h.rows p hp).keepOwn hown hg (by decide) (by decide)⟩
  rcases h.tin with ⟨rfl, h2, h3⟩ | ⟨b, c, Z, rfl, hb, h4⟩
  · exact .inl ⟨rfl, h2, h3⟩
  · exact .inr ⟨b, c, Z, rfl, hb.grown hg (fun e => hne b rfl e.symm), h4⟩
theorem outP_at {L : List Pa} {l : List (ByteArray × Ro)} (h : L.map Pa.data = outP l) : L.length = l.length ∧ ∀ (k : Nat) (h1 : k < L.length) (h2 : k < l.length), L[k].key = l[k].1 ∧ L[k].gone = 0 ∧ L[k].ps.map (·.1) = [l[k].2] := by
  have hl : L.length = l.length := by have := congrArg List.length h; simpa [outP] using this
  refine ⟨hl, fun k h1 h2 => ?_⟩
  have : (L.map Pa.data)[k]'(by simpa using h1) = (outP l)[k]'(by simpa [outP] using h2) := by congr 1
  simp only [outP, List.getElem_map, Pa.data, Prod.mk.injEq] at this
  exact this
theorem viL_mem {L : List Pa} {q : Pa} (h : q ∈ L) : (q.key, q.ps.map (·.1)) ∈ viL L := List.mem_map_of_mem h
/-- What put19 asks, of a view on its way. -/
theorem way_put {L : List Pa} {N : Nat} (h : OnWay (viL L) N) (hN : N ≤ 49) : L.length ≤ 1000 ∧ (∀ q ∈ L, GoodRs (q.ps.map (·.1))) ∧ (∀ q ∈ L, ∀ p ∈ q.ps, p.1.cols.length ≤ 1000) ∧ ∀ q ∈ L, q.ps.length ≤ 99 := by
  refine ⟨?_, fun q hq => h.good _ (viL_mem hq), fun q hq p hp => ?_, fun q hq => ?_⟩
  · have := h.bnd.len
    unfold viL at this
    rw [List.length_map] at this
    omega
  · have := h.bnd.cols _ (viL_mem hq) p.1 (List.mem_map_of_mem hp)
    omega
  · have := h.bnd.rows _ (viL_mem hq)
    simp only [List.length_map] at this
    omega

end Go.Proofs.YtolkhjdododdaaaGreat

/- The reference's text: clerestoryref02.Text. -/
namespace Go.Proofs.YtolkhjdododdaaaGreat
open Go Go.RowKit
attribute [local go_sem] yields yUpon

theorem str_snoc (acc : List UInt8) (s : ByteArray) (k : Nat) (h : k < s.size) : str acc ++ s.extract k (k + 1) = str (acc ++ [s.data.toList[k]'h]) := by
  apply ByteArray.ext
  simp only [ByteArray.data_append, ByteArray.data_extract, str]
  apply Array.toList_inj.1
  simp
  rw [List.drop_eq_getElem_cons (by simpa using h)]
  rfl

set_option maxHeartbeats 400000 in
theorem r2text_any (s : ByteArray) (w : World) (hl : s.size ≤ 100000000) :
    Calls Tryz.prog 94 #[.string s] w fun e w' => e = .returned (.string (str (txt s.data.toList))) ∧ w = w' := by
  go_enter Tryz.func94, Tryz.ntmps94
  go_wp2
  go_loop [3, 4] (fun t n => ∃ (k : Nat), k ≤ s.size ∧ n = .int .i64 k ∧ t = .string (str (esc (s.data.toList.take k)))) (fun _ n => s.size - (intOf n).toNat)
  case atStart => exact ⟨0, by omega, rfl, rfl⟩
  case round =>
    obtain ⟨k, hk, rfl, rfl⟩ := hrel
    have hle : (esc (s.data.toList.take k)).length ≤ 2 * k := Nat.le_trans (esc_length_le _) (by simp; omega)
    have q1 : ¬ 9223372036854775807 < (esc (s.data.toList.take k)).length + (min (k + 1) s.size - k) := by omega
    have q2 : ¬ 9223372036854775807 < (esc (s.data.toList.take k)).length + 2 := by omega
    have q3 : ¬ 9223372036854775807 < (esc (s.data.toList.take k)).length + (min (k + 1) s.size - k) + 1 := by omega
    by_cases hlt : k < s.size
    · have hts : Hid (esc (s.data.toList.take (k + 1)) = esc (s.data.toList.take k) ++ if s[k] = 0 then [0, 255] else [s[k]]) := by
        rw [← esc_snoc]
        congr 1
        exact List.take_succ_eq_append_getElem (by simpa using hlt)
      have hsn := Lib.hid (str_snoc (esc (s.data.toList.take k)) s k hlt)
      by_cases hz : s[k] = 0
      · have z0 : ((s[k].toNat : Int) == 0) = true := byte_eq (c := 0) hz
        have HZ := Lib.hid hz
        clear hz
        go_wp2
        go_round
        case rel =>
          refine ⟨k + 1, by omega, by go_num, ?_⟩
          rw [hsn.out, hts.out, if_pos HZ.out]
          rw [show s.data.toList[k] = 0 from HZ.out, show (⟨#[255]⟩ : ByteArray) = str [255] from rfl, str_app, List.append_assoc]
          rfl
        case measure => simp [intOf] <;> omega
      · have z0 : ((s[k].toNat : Int) == 0) = false := byte_ne (c := 0) hz
        have HZ := Lib.hid hz
        clear hz
        go_wp2
        go_round
        case rel =>
          refine ⟨k + 1, by omega, by go_num, ?_⟩
          rw [hsn.out, hts.out, if_neg HZ.out]
          rfl
        case measure => simp [intOf] <;> omega
    · go_wp2
      go_ret
      refine ⟨?_, rfl⟩
      refine ret_str ?_
      rw [show (⟨#[0, 1]⟩ : ByteArray) = str [0, 1] from rfl, str_app, List.take_of_length_le (by simpa using hlt)]
      rfl
end Go.Proofs.YtolkhjdododdaaaGreat

/- The reference's views: in, pick, Key, Mirror. -/
namespace Go.Proofs.YtolkhjdododdaaaGreat
open Go Go.RowKit
attribute [local go_sem] yields yUpon co5 vw5

theorem BoxAt.vw' {w : World} {p : Nat} {x : Vw} {u : Value} {T : TypeId} (h : BoxAt w p (vw5 x u) T) : ∀ i, w.cell? ⟨p, i, none⟩ = (vw5 x u)[i]? := fun i => h.cell i

set_option maxRecDepth 100000 in
set_option maxHeartbeats 2000000 in
theorem in18_any (x : Vw) (u : Value) (ns : List ByteArray) (name : ByteArray) (w : World) (hns : StrsIn w u ns) :
    Calls Tryz.prog 80 #[.agg #[.string x.name, .int .i64 x.id, .string x.table, .string x.on, u], .string name] w fun e w' => e = .returned (.bool (hasS ns name)) ∧ Ext w w' := by
  obtain ⟨a, c, rfl, hc, hcm, hcell⟩ := hns.get
  obtain ⟨n, hn⟩ : ∃ n, n = ns.length := ⟨_, rfl⟩
  rw [← hn] at hc ⊢
  have HN := Lib.hid hn
  have HC := Lib.hid hcell
  clear hcell hns hn
  go_enter Tryz.func80, Tryz.ntmps80
  go_wp2
  go_loopw [5] (fun i wr => ∃ k : Nat, k ≤ n ∧ i = .int .i64 k ∧ BoxAt wr w.heap.size (vw5 x (.slice a n c)) 31 ∧ Ext w wr ∧ Hid (hasS ns name = hasS (ns.drop k) name)) (fun i _ => n - (intOf i).toNat)
  case atStart => exact ⟨0, Nat.zero_le _, rfl, BoxAt.made w _ _, (Ext.refl w).alloc _, rfl⟩
  case round =>
    obtain ⟨k, hk, rfl, hb, hE, HX⟩ := hrel
    obtain ⟨x0, x1, x2, x3, x4⟩ := hb.vw
    by_cases hlt : k < n
    · have hkn : k < ns.length := by rw [← HN.out]; exact hlt
      obtain ⟨b, o, rfl, hco⟩ := HC.out k hkn
      replace hco := hE.cell hco
      have hD : hasS (ns.drop k) name = ((ns[k].toList == name.toList) || hasS (ns.drop (k + 1)) name) := by
        unfold hasS
        rw [List.drop_eq_getElem_cons hkn, List.any_cons]
        congr 1
        exact BEq.comm
      have HD := Lib.hid (HX.out.trans hD)
      clear hD HX
      obtain ⟨M, hM⟩ : ∃ M, M = ns[k] := ⟨_, rfl⟩
      rw [← hM] at hco HD
      clear hM
      cases hq : (M.toList == name.toList)
      · go_wp2_with fail
        go_roundw
        case rel => exact ⟨k + 1, by omega, by go_num, hb, hE, HD.out.trans (by rw [hq]; rfl)⟩
        case measure => simp [intOf] <;> omega
      · go_wp2_with fail
        go_ret
        exact ⟨ret_bool (HD.out.trans (by rw [hq]; rfl)).symm, hE⟩
    · go_wp2_with fail
      go_ret
      exact ⟨ret_bool (by rw [HX.out, List.drop_eq_nil_of_le (by have := HN.out; omega)]; rfl), hE⟩

theorem keeps_take {ns : List ByteArray} {l : List Co} {k : Nat} (hk : k < l.length) : (l.take (k + 1)).filter (keeps ns) = (l.take k).filter (keeps ns) ++ if hasS ns l[k].name then [l[k]] else [] := by
  rw [List.take_succ_eq_append_getElem hk, List.filter_append]
  congr 1
  have : keeps ns l[k] = hasS ns l[k].name := by unfold keeps strikes; rw [Bool.not_not]
  cases h : hasS ns l[k].name <;> simp [this, h]

set_option maxRecDepth 100000 in
set_option maxHeartbeats 4000000 in
theorem pick18_any (x : Vw) (u : Value) (ns : List ByteArray) (v : Value) (l : List Co) (w : World) (hns : StrsIn w u ns) (hin : ColsIn w v l) (hlen : l.length ≤ 1000000) :
    Calls Tryz.prog 61 #[.agg #[.string x.name, .int .i64 x.id, .string x.table, .string x.on, u], v] w fun e w' => ∃ v', e = .returned v' ∧ w'.ownsRow (w.heap.size + 1) 57 5 v' (l.filter (keeps ns)).length (coCells (l.filter (keeps ns))) ∧ Ext w w' := by
  obtain ⟨a, c, rfl, hc, hcm, hcell⟩ := hin.get
  obtain ⟨n, hn⟩ : ∃ n, n = l.length := ⟨_, rfl⟩
  rw [← hn] at hc hlen ⊢
  have HN := Lib.hid hn
  have HC := Lib.hid hcell
  clear hcell hin hn
  go_enter Tryz.func61, Tryz.ntmps61
  go_wp2
  go_loopw [5, 6] (fun m i wr => ∃ k : Nat, k ≤ n ∧ i = .int .i64 k ∧ BoxAt wr w.heap.size (vw5 x u) 31 ∧ Ext w wr ∧ wr.ownsRow (w.heap.size + 1) 57 5 m ((l.take k).filter (keeps ns)).length (coCells ((l.take k).filter (keeps ns)))) (fun _ i _ => n - (intOf i).toNat)
  case atStart => exact ⟨0, Nat.zero_le _, rfl, BoxAt.made w _ _, (Ext.refl w).alloc _, World.ownsRow_nil _ _ _ _⟩
  case round =>
    obtain ⟨k, hk, rfl, hb, hE, hown⟩ := hrel
    by_cases hlt : k < n
    · have hkn : k < l.length := by rw [← HN.out]; exact hlt
      obtain ⟨b, o, rfl, hco⟩ := HC.out k hkn
      have hT := keeps_take (ns := ns) hkn
      have hle : ((l.take k).filter (keeps ns)).length ≤ k := Nat.le_trans (List.length_filter_le _ _) (by simp; omega)
      obtain ⟨M, hM⟩ : ∃ M, M = l[k] := ⟨_, rfl⟩
      rw [← hM] at hco hT
      obtain ⟨S, hS⟩ : ∃ S, S = (l.take k).filter (keeps ns) := ⟨_, rfl⟩
      rw [← hS] at hT hle hown
      obtain ⟨B, hB⟩ : ∃ B, B = hasS ns M.name := ⟨_, rfl⟩
      rw [← hB] at hT
      have HT := Lib.hid hT
      have HB := Lib.hid hB
      clear hM hS hT hB
      have hco' := hco.ext hE
      obtain ⟨g0, g1, g2, g3, g4⟩ := hco'
      obtain ⟨x0, x1, x2, x3, x4⟩ := hb.vw
      go_wp2_with fail
      refine wp_region_tab 7 [(6, fun v _ => v = .bool B)] (by kernel_rfl) (by kernel_rfl) (by kernel_rfl) ⟨stays_eq _, trivial⟩ ?_
      replace g0 := held g0
      replace x0 := held x0
      replace x1 := held x1
      replace x2 := held x2
      replace x3 := held x3
      replace x4 := held x4
      refine rg_quiet rfl rfl rfl rfl ?_; intro K hK; go_big_quiet_op; go_big_quiet_on
      refine rg_quiet rfl rfl rfl rfl ?_; intro K hK; go_big_quiet_op; go_big_quiet_on
      refine rg_quiet rfl rfl rfl rfl ?_; intro K hK; go_big_quiet_op; go_big_quiet_on
      refine rg_quiet rfl rfl rfl rfl ?_; intro K hK; go_big_quiet_op; go_big_quiet_on
      refine rg_quiet rfl rfl rfl rfl ?_; intro K hK; go_big_quiet_op; go_big_quiet_on
      refine rg_quiet rfl rfl rfl rfl ?_; intro K hK; go_big_quiet_op; go_big_quiet_on
      refine rg_val [] rfl rfl rfl (by kernel_rfl) (fun y hY hf => ?_) ?_
      · go_simp
        exact (in18_any x u ns M.name y (hns.ext (hE.trans hY))).mono fun e w' ⟨he, hw⟩ => ⟨_, he, rg_done hY hw (by rw [← HB.out])⟩
      simp only [Act.put, List.setIfInBounds_toArray, List.set_cons_zero, List.set_cons_succ]
      refine rel_nil fun w5 hE5 _ => ?_
      replace hb := hb.ext hE5
      replace hown := ownsRow_ext hown hE5
      replace hco := hco.ext (hE.trans hE5)
      replace hE := hE.trans hE5
      clear x0 x1 x2 x3 x4 g0 g1 g2 g3 g4 hE5
      cases B
      · have hT2 := HT.out
        simp only [Bool.false_eq_true, if_false, List.append_nil] at hT2
        have HT2 := Lib.hid hT2
        clear hT2 HT
        go_wp2_with fail
        go_roundw
        case rel => exact ⟨k + 1, by omega, by go_num, hb, hE, by rw [HT2.out]; exact hown⟩
        case measure => simp [intOf] <;> omega
      · have hT2 := HT.out
        simp only [if_true] at hT2
        have HT2 := Lib.hid hT2
        clear hT2 HT
        obtain ⟨g0, g1, g2, g3, g4⟩ := hco
        have hlb := hb.lt
        go_wp2_with (at_builtin; go_must (refine appR info_Col und_Cols rfl (by decide) w5 rfl (.tmp 20) (.tmp 25) rfl (w.heap.size + 1) hlb _ _ _ hown rfl 1 _ rfl rfl (by simp [Value.oneCell']) (by unfold maxLen; omega) (by omega) ?_); intro m3 w3 hown3 hg3)
        go_roundw
        case rel =>
          refine ⟨k + 1, by omega, by go_num, (hb.ext ((Ext.refl _).alloc _)).grown hg3 (fun h => ?_), (hE.alloc _).grown hg3 fun q hq => by have := (hown.lt q hq).1; omega, ?_⟩
          · have := (hown.lt _ h.symm).1
            omega
          · rw [HT2.out, coCells_append, List.length_append]
            exact hown3
        case measure => simp [intOf] <;> omega
    · obtain rfl : k = n := by omega
      rw [HN.out, List.take_length] at hown
      go_wp2_with fail
      go_ret
      exact ⟨_, rfl, hown, hE⟩

set_option maxHeartbeats 1000000 in
theorem key18_any (a b : ByteArray) (w : World) (ha : a.size ≤ 10000000) (hb : b.size ≤ 10000000) :
    Calls Tryz.prog 78 #[.string a, .string b] w fun e w' => e = .returned (.string (vkey a b)) ∧ w = w' := by
  have hl : (txt a.data.toList).length ≤ 2 * a.size + 2 := txt_length_le a.data.toList
  have hm : ¬ 9223372036854775807 < (txt a.data.toList).length + b.size := by omega
  obtain ⟨T, hT⟩ : ∃ T, T = txt a.data.toList := ⟨_, rfl⟩
  have e1 : vkey a b = str T ++ b := by rw [hT]; rfl
  rw [e1]
  rw [← hT] at hm
  have HT := Lib.hid hT
  clear hT hl e1
  go_enter Tryz.func78, Tryz.ntmps78
  go_wp2_with fail
  refine (r2text_any a w (by omega)).mono ?_
  rw [← HT.out]
  rintro e w1 ⟨rfl, rfl⟩
  go_wp2
  go_ret
  exact ⟨rfl, rfl⟩
end Go.Proofs.YtolkhjdododdaaaGreat

/- The reference's views: Mirror. -/
namespace Go.Proofs.YtolkhjdododdaaaGreat
open Go Go.RowKit
attribute [local go_sem] yields yUpon co5 vw5 ro8 pa3 cl4

/-- What mirrors a row, if its key is not too long. -/
def mirF (x : Vw) (ns : List ByteArray) (pk : ByteArray) (pg : Int) (r : Ro) : Option (ByteArray × Ro) := if 400 < (vkey pk r.key).size then none else mirOf x ns pk pg r
theorem mirF_short {x : Vw} {ns : List ByteArray} {pk : ByteArray} {pg : Int} {r : Ro} (h : (vkey pk r.key).size ≤ 400) : mirF x ns pk pg r = mirOf x ns pk pg r := by
  unfold mirF
  rw [if_neg (by omega)]

set_option maxRecDepth 100000 in
set_option maxHeartbeats 8000000 in
theorem mirror18_any (x : Vw) (u : Value) (ns : List ByteArray) (pk : ByteArray) (pg : Int) (pu : Value) (r : Ro) (v : Value) (w : World) (hin : ColsIn w v r.cols) (hlc : r.cols.length ≤ 1000000) (hns : StrsIn w u ns)
    (hk : pk.size ≤ 10000000) (hr : r.key.size ≤ 10000000) :
    Calls Tryz.prog 58 #[.agg #[.string x.name, .int .i64 x.id, .string x.table, .string x.on, u], .agg #[.string pk, .int .i64 pg, pu], (.agg #[.string r.key, .string r.live.val, .bool r.live.dead, .int .i64 r.live.at_, .int .i64 r.live.fin, .int .i64 r.gone, .int .i64 r.shade, v])] w fun e w' =>
      ∃ rv, e = .returned (.tuple #[.agg #[.string (mirK (mirF x ns pk pg r)), .int .i64 0, rv], .bool (mirF x ns pk pg r).isSome]) ∧ ∃ ps, RowsT w' rv ps ∧ ps.map (·.1) = mirR (mirF x ns pk pg r) ∧ Ext w w' := by
  obtain ⟨a0, a1, a2, a3, hE⟩ := boxes4 w (vw5 x u) (pa3 pk pg pu) (ro8 r v) (pa3 ⟨#[]⟩ 0 (.slice none 0 0)) 31 39 54 39
  obtain ⟨key, hkey⟩ : ∃ key, key = vkey pk r.key := ⟨_, rfl⟩
  obtain ⟨B, hB⟩ : ∃ B, B = bestB (cellOf r.cols x.on) (max r.gone pg) := ⟨_, rfl⟩
  obtain ⟨C, hC⟩ : ∃ C, C = bestC (cellOf r.cols x.on) (max r.gone pg) := ⟨_, rfl⟩
  obtain ⟨m, hm⟩ : ∃ m, m = mirF x ns pk pg r := ⟨_, rfl⟩
  have hm0 : B = false → m = none := by
    intro hb
    rw [hm]
    unfold mirF mirOf
    rw [← hB, hb]
    split <;> rfl
  have hm1 : 400 < key.size → m = none := by
    intro hb
    rw [hm]
    unfold mirF
    rw [← hkey, if_pos hb]
  have hm2 : B = true → ¬ 400 < key.size → m = some (C.val, ⟨key, ⟨⟨#[]⟩, false, C.at_, C.fin⟩, max r.gone pg, 0, r.cols.filter (keeps ns)⟩) := by
    intro hb hs
    rw [hm, hC]
    unfold mirF mirOf bestC
    rw [← hkey, if_neg hs, ← hB, hb, if_pos rfl, if_pos rfl]
  rw [← hm]
  have HM0 := Lib.hid hm0
  have HM1 := Lib.hid hm1
  have HM2 := Lib.hid hm2
  have HB := Lib.hid hB
  have HC := Lib.hid hC
  have HK := Lib.hid hkey
  have hin' := hin.ext hE
  have hns' := hns.ext hE
  clear hm hm0 hm1 hm2 hB hC hkey hin hns
  go_enter Tryz.func58, Tryz.ntmps58
  go_wp2_with fail
  refine (best7_any r v pg x.on _ hin').mono ?_
  rw [← HB.out, ← HC.out]
  rintro e w1 ⟨rfl, hE1⟩
  replace a0 := a0.ext hE1
  replace a1 := a1.ext hE1
  replace a2 := a2.ext hE1
  replace a3 := a3.ext hE1
  replace hin' := hin'.ext hE1
  replace hns' := hns'.ext hE1
  replace hE := hE.trans hE1
  clear hE1
  obtain ⟨s3, hs3⟩ : ∃ s, s = w.heap.size + 1 + 1 + 1 := ⟨_, rfl⟩
  go_wp2_with (((guard_target =~ wpList _ _ _ (Oper.mk none (Op.store _ (Operand.tmp 8) (Operand.tmp 19)) _ _ _ _ :: _) _ _); go_must (refine storeBox rfl 51 (.tmp 8) (.tmp 19) rfl (w1.heap.size) _ _ _ (by rfl) (by rfl) ((BoxAt.made w1 (cl4 zeroCl) 51)) (by kernel_rfl) (by rfl) (by simp [Value.oneCell']) ?_); intro w2 c2 g2); have hX2 : Ext w1 w2 := ((Ext.refl w1).alloc _).grown g2 (fun q hq => by cases hq; exact Nat.le_refl _); have y1 := (a1.ext hX2).pa; have z1 := (a2.ext hX2).ro)
  refine (key18_any pk r.key w2 hk hr).mono ?_
  rw [← HK.out]
  rintro e w3 ⟨rfl, rfl⟩
  have b0 := a0.ext hX2
  have b1 := a1.ext hX2
  have b2 := a2.ext hX2
  have b3 := a3.ext hX2
  replace hin' := hin'.ext hX2
  replace hns' := hns'.ext hX2
  replace hE := hE.trans hX2
  have d2 : BoxAt w2 w1.heap.size (cl4 C) 51 := c2
  clear a0 a1 a2 a3 c2 g2 hX2 y1 z1
  obtain ⟨x0, x1, x2, x3⟩ := d2.cl
  obtain ⟨y0, y1, y2⟩ := b1.pa
  obtain ⟨z0, z1, z2, z3, z4, z5, z6, z7⟩ := b2.ro
  obtain ⟨v0, v1, v2, v3, v4⟩ := b0.vw
  by_cases hsz : 400 < key.size
  · obtain rfl := HM1.out hsz
    have q1 : decide ((400 : Int) < (key.size : Int)) = true := by simp; omega
    cases B
    all_goals
      go_wp2_with (((guard_target =~ wpList _ _ _ (Oper.mk none (Op.store _ (Operand.tmp 6) (Operand.tmp 33)) _ _ _ _ :: _) _ _); go_must (refine storeBox rfl 39 (.tmp 6) (.tmp 33) rfl (w.heap.size + 1 + 1 + 1) _ _ _ (by rfl) (by rfl) (b3) (by kernel_rfl) (by rfl) (by simp [Value.oneCell']) ?_); intro w4 c4 g4))
      obtain ⟨f0, f1, f2⟩ := BoxAt.pa (k := ⟨#[]⟩) (g := 0) (u := .slice none 0 0) c4
      refine bodyPost_ret (v := .tuple #[.agg #[.string ⟨#[]⟩, .int .i64 0, .slice none 0 0], .bool false]) ?_ rfl ⟨.slice none 0 0, rfl, [], RowsT.nil _, rfl, hE.grown g4 (fun q hq => by cases hq; omega)⟩
      simp [results, Tryz.results58, go_sem, f0, f1, f2]
  · cases B
    · obtain rfl := HM0.out rfl
      go_wp2_with (((guard_target =~ wpList _ _ _ (Oper.mk none (Op.store _ (Operand.tmp 6) (Operand.tmp 33)) _ _ _ _ :: _) _ _); go_must (refine storeBox rfl 39 (.tmp 6) (.tmp 33) rfl (w.heap.size + 1 + 1 + 1) _ _ _ (by rfl) (by rfl) (b3) (by kernel_rfl) (by rfl) (by simp [Value.oneCell']) ?_); intro w4 c4 g4))
      obtain ⟨f0, f1, f2⟩ := BoxAt.pa (k := ⟨#[]⟩) (g := 0) (u := .slice none 0 0) c4
      refine bodyPost_ret (v := .tuple #[.agg #[.string ⟨#[]⟩, .int .i64 0, .slice none 0 0], .bool false]) ?_ rfl ⟨.slice none 0 0, rfl, [], RowsT.nil _, rfl, hE.grown g4 (fun q hq => by cases hq; omega)⟩
      simp [results, Tryz.results58, go_sem, f0, f1, f2]
    · obtain rfl := HM2.out rfl hsz
      obtain ⟨L, hL⟩ : ∃ L, L = r.cols.filter (keeps ns) := ⟨_, rfl⟩
      obtain ⟨G, hG⟩ : ∃ G, G = max r.gone pg := ⟨_, rfl⟩
      have HL := Lib.hid hL
      have HG := Lib.hid hG
      clear hL hG HM0 HM1 HM2 HB HC HK
      go_wp2_with fail
      refine wp_region_tab 16 [(9, fun v _ => v = .int .i64 G), (13, fun v y => ColsT y v L), (15, fun v y => ∃ q, v = .pointer (some ⟨q, 0, none⟩) ∧ w2.heap.size ≤ q ∧ BoxAt y q (ro8 ⟨⟨#[]⟩, zeroCl, 0, 0, []⟩ (.slice none 0 0)) 54)] (by kernel_rfl) (by kernel_rfl) (by kernel_rfl) ⟨stays_eq _, fun _ _ _ hE h => h.ext hE, fun _ _ _ hE ⟨q, e, h1, h2⟩ => ⟨q, e, h1, h2.ext hE⟩, trivial⟩ ?_
      replace x2 := held x2
      replace x3 := held x3
      replace y1 := held y1
      replace z0 := held z0
      replace z1 := held z1
      replace z2 := held z2
      replace z3 := held z3
      replace z4 := held z4
      replace z5 := held z5
      replace z6 := held z6
      replace z7 := held z7
      replace v0 := held v0
      replace v1 := held v1
      replace v2 := held v2
      replace v3 := held v3
      replace v4 := held v4
      refine rg_quiet rfl rfl rfl rfl ?_; intro K hK; go_big_quiet_op; go_big_quiet_on
      refine rg_quiet rfl rfl rfl rfl ?_; intro K hK; go_big_quiet_op; go_big_quiet_on
      refine rg_quiet rfl rfl rfl rfl ?_; intro K hK; go_big_quiet_op; go_big_quiet_on
      refine rg_quiet rfl rfl rfl rfl ?_; intro K hK; go_big_quiet_op; go_big_quiet_on
      refine rg_quiet rfl rfl rfl rfl ?_; intro K hK; go_big_quiet_op; go_big_quiet_on
      refine rg_quiet rfl rfl rfl rfl ?_; intro K hK; go_big_quiet_op; go_big_quiet_on
      refine rg_quiet rfl rfl rfl rfl ?_; intro K hK; go_big_quiet_op; go_big_quiet_on
      refine rg_quiet rfl rfl rfl rfl ?_; intro K hK; go_big_quiet_op; go_big_quiet_on
      refine rg_quiet rfl rfl rfl rfl ?_; intro K hK; go_big_quiet_op; go_big_quiet_on
      refine rg_val [] rfl rfl rfl (by kernel_rfl) (fun y hY hf => ?_) ?_
      · go_simp
        exact (gone7_any r v pg y).mono fun e w' ⟨he, hw⟩ => ⟨_, he, rg_done hY hw (by rw [← HG.out])⟩
      simp only [Act.put, List.setIfInBounds_toArray, List.set_cons_zero, List.set_cons_succ]
      refine rg_quiet rfl rfl rfl rfl ?_; intro K hK; go_big_quiet_op; go_big_quiet_on
      refine rg_quiet rfl rfl rfl rfl ?_; intro K hK; go_big_quiet_op; go_big_quiet_on
      refine rg_quiet rfl rfl rfl rfl ?_; intro K hK; go_big_quiet_op; go_big_quiet_on
      refine rg_fact [] rfl rfl rfl (by kernel_rfl) (fun y hY hf => ?_) (fun v13 y13 hE13 hG13 h13 => ?_)
      · go_simp
        refine (pick18_any x u ns v r.cols y (hns'.ext hY) (hin'.ext hY) hlc).mono ?_
        rw [← HL.out]
        rintro e y' ⟨v', he, hown', hy⟩
        exact ⟨_, he, rg_doneR hY hy (TIn.own hown')⟩
      obtain ⟨a13, c13, rfl⟩ := TIn.shape h13
      clear hE13 hG13 h13
      simp only [Act.put, List.setIfInBounds_toArray, List.set_cons_zero, List.set_cons_succ]
      refine rg_quiet rfl rfl rfl rfl ?_; intro K hK; go_big_quiet_op; go_big_quiet_on
      refine rg_fact [] rfl rfl rfl (by kernel_rfl) (fun y hY hf => ?_) (fun v15 y15 hE15 hG15 h15 => ?_)
      · go_simp
        exact rg_doneR hY ((Ext.refl y).alloc _) ⟨_, rfl, hY.le, BoxAt.made y _ _⟩
      obtain ⟨q15, rfl, _⟩ := h15
      clear hE15 hG15
      simp only [Act.put, List.setIfInBounds_toArray, List.set_cons_zero, List.set_cons_succ]
      refine rel_tail rfl rfl fun w5 hE5 hG => ?_
      have hc5 : ColsT w5 (.slice a13 L.length c13) L := (hG 13).1.2 rfl
      obtain ⟨q15', e15, hq15, hbx⟩ := (hG 15).2 rfl
      cases e15
      have b5 := b3.ext hE5
      have hE25 := hE.trans hE5
      have hx5 := (d2.ext hE5).cl
      have hl3 := b3.lt
      have hl2 := d2.lt
      clear hG x0 x1 x2 x3 y0 y1 y2 z0 z1 z2 z3 z4 z5 z6 z7 v0 v1 v2 v3 v4 b0 b1 b2 b3
      obtain ⟨R, hR⟩ : ∃ R : Ro, R = ⟨key, ⟨⟨#[]⟩, false, C.at_, C.fin⟩, G, 0, L⟩ := ⟨_, rfl⟩
      have b6' := b5
      go_wp2_with (first
        | (((guard_target =~ wpList _ _ _ (Oper.mk none (Op.store _ (Operand.tmp 11) (Operand.tmp 48)) _ _ _ _ :: _) _ _); go_must (refine storeBox rfl 54 (.tmp 11) (.tmp 48) rfl (q15) _ _ _ (by rfl) (by rfl) (hbx) (by kernel_rfl) (by rfl) (by simp [Value.oneCell']) ?_); intro w6 c6 g6); have d6 : BoxAt w6 q15 (ro8 ⟨key, ⟨⟨#[]⟩, false, C.at_, C.fin⟩, G, 0, L⟩ (.slice a13 L.length c13)) 54 := c6; have f6 := d6.ro; have b6 := (b5.grown g6 (fun e => by have := Option.some.inj e; omega)); have h6 : BoxAt w6 w1.heap.size (cl4 C) 51 := (d2.ext hE5).grown g6 (fun e => by have := Option.some.inj e; omega); have k6 := h6.cl; have hc6 := hc5.keep g6 hbx (by decide); have hE6 := hE25.grown g6 (fun q hq => by cases hq; omega))
        | (((guard_target =~ wpList _ _ _ (Oper.mk none (Op.store _ (Operand.tmp 6) (Operand.tmp 53)) _ _ _ _ :: _) _ _); go_must (refine storeBox rfl 39 (.tmp 6) (.tmp 53) rfl (w.heap.size + 1 + 1 + 1) _ _ _ (by rfl) (by rfl) ((b6.ext ((Ext.refl w6).alloc _))) (by kernel_rfl) (by rfl) (by simp [Value.oneCell']) ?_); intro w7 c7 g7)))
      have d7 : BoxAt w7 (w.heap.size + 1 + 1 + 1) (pa3 C.val 0 (.slice (some ⟨w6.heap.size, 0, none⟩) 1 1)) 39 := c7
      obtain ⟨f0, f1, f2⟩ := BoxAt.pa (k := C.val) (g := 0) (u := .slice (some ⟨w6.heap.size, 0, none⟩) 1 1) d7
      have hl6 := b6.lt
      have hX := (Ext.refl w6).alloc (.cells (ro8 ⟨key, ⟨⟨#[]⟩, false, C.at_, C.fin⟩, G, 0, L⟩ (.slice a13 L.length c13)) 54)
      have hb7 : BoxAt w7 w6.heap.size (ro8 ⟨key, ⟨⟨#[]⟩, false, C.at_, C.fin⟩, G, 0, L⟩ (.slice a13 L.length c13)) 54 := (BoxAt.made w6 _ _).grown g7 (fun e => by have := Option.some.inj e; omega)
      have hc7 := (hc6.ext hX).keep g7 (b6.ext hX) (by decide)
      have hE7 := (hE6.trans hX).grown g7 (fun q hq => by cases hq; omega)
      refine bodyPost_ret (v := .tuple #[.agg #[.string C.val, .int .i64 0, .slice (some ⟨w6.heap.size, 0, none⟩) 1 1], .bool true]) ?_ rfl ⟨_, rfl, _, RowsT.one hb7 hc7, ?_, hE7⟩
      · simp [results, Tryz.results58, go_sem, f0, f1, f2]
      · show [_] = [_]
        rw [HL.out, HG.out]
end Go.Proofs.YtolkhjdododdaaaGreat
