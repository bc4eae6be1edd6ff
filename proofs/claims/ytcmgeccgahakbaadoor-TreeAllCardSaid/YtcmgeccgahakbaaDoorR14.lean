/- The reference of chapter 9: bytes (a partition's), Part. -/
import Derived.Test.YtcmgeccgahakbaaDoorR13
import Derived.Test.YtcmgeccgahakbaaDoorR12
import Derived.Test.YtcmgeccgahakbaaDoorR6
set_option linter.unusedSimpArgs false
set_option linter.unusedVariables false
namespace Go.Proofs.YtcmgeccgahakbaaDoor
open Go Go.RowKit
attribute [local go_sem] yields yUpon

theorem strcat (a b : ByteArray) (l m : List UInt8) (ha : a = str l) (hb : b = str m) : a ++ b = str (l ++ m) := by rw [ha, hb, str_app]

set_option maxRecDepth 100000 in
set_option maxHeartbeats 16000000 in
theorem r9_bytes (k : ByteArray) (g : Int) (u : Value) (ps : List (Ro × Value)) (hp : OkP k g (ps.map (·.1))) (w : World) (hin : RowsIn w u ps) :
    Calls Tryd.prog 57 #[.agg #[.string k, .int .i64 g, u]] w fun e w' => e = .returned (.string (str (wholeP k g (ps.map (·.1))))) ∧ Ext w w' := by
  have hE0 := (Ext.refl w).alloc (.cells #[.string k, .int .i64 g, u] 24)
  have hbx := BoxAt.made w #[.string k, .int .i64 g, u] 24
  have hcols := Lib.hid hin.cols
  obtain ⟨au, cu, rfl, hcu, hcum, hget⟩ := hin.get
  obtain ⟨k1, k2, k3, k4, k5⟩ := hp
  rw [List.length_map] at k4
  obtain ⟨T, hT⟩ : ∃ T, T = txT k := ⟨_, rfl⟩
  obtain ⟨G, hG⟩ : ∃ G, G = str (num g.toNat) := ⟨_, rfl⟩
  obtain ⟨R, hR⟩ : ∃ R, R = str (num ps.length) := ⟨_, rfl⟩
  have zT : T.size ≤ 1009 := by rw [hT]; have := txT_size k (by omega); omega
  have zG : G.size ≤ 9 := by rw [hG, str_size]; exact num_length (by omega)
  have zR : R.size ≤ 9 := by rw [hR, str_size]; exact num_length (by omega)
  have q1 : ¬ 9223372036854775807 < T.size + G.size := by omega
  have q2 : ¬ 9223372036854775807 < T.size + G.size + R.size := by omega
  obtain ⟨B3, hB3⟩ : ∃ B, B = num k.size ++ k.data.toList ++ num g.toNat ++ num ps.length := ⟨_, rfl⟩
  have m3 : B3.length ≤ 1027 := by
    have l1 := num_length (x := k.size) (by omega)
    have l2 := num_length (x := g.toNat) (by omega)
    have l3 := num_length (x := ps.length) (by omega)
    rw [hB3]; simp only [List.length_append, dat_size]; omega
  have HB3 : Hid (T ++ G ++ R = str B3) := Lib.hid (by rw [hT, hG, hR]; unfold txT; rw [str_app, str_app, hB3])
  have HW : Hid (wholeP k g (ps.map (·.1)) = B3 ++ (ps.map (·.1)).flatMap rowP) := Lib.hid (by rw [hB3]; unfold wholeP; rw [List.length_map])
  have HT := Lib.hid hT
  have HG0 := Lib.hid hG
  have HR := Lib.hid hR
  have HG := Lib.hid hget
  have HK := Lib.hid k5
  rw [HW.out]
  obtain ⟨n, hn⟩ : ∃ n, n = ps.length := ⟨_, rfl⟩
  rw [← hn] at hbx hE0 hcu k4 HR ⊢
  have HN := Lib.hid hn
  clear hT hG hR hget k5 hn hin hB3 zT zG zR
  go_enter Tryd.func57, Tryd.ntmps57
  go_wp2
  refine wp_region_tab 12 [(2, fun v _ => v = .string T), (5, fun v _ => v = .string G), (10, fun v _ => v = .string R)] (by kernel_rfl) (by kernel_rfl) (by kernel_rfl) ⟨stays_eq _, stays_eq _, stays_eq _, trivial⟩ ?_
  have c0 := held (show (w.alloc (.cells #[.string k, .int .i64 g, .slice au n cu] 24)).cell? ⟨w.heap.size, 0, none⟩ = some (.string k) from hbx.cell 0)
  have c1 := held (show (w.alloc (.cells #[.string k, .int .i64 g, .slice au n cu] 24)).cell? ⟨w.heap.size, 1, none⟩ = some (.int .i64 g) from hbx.cell 1)
  have c2 := held (show (w.alloc (.cells #[.string k, .int .i64 g, .slice au n cu] 24)).cell? ⟨w.heap.size, 2, none⟩ = some (.slice au n cu) from hbx.cell 2)
  refine rg_quiet rfl rfl rfl rfl ?_; intro K hK; go_big_quiet_op; go_big_quiet_on
  refine rg_quiet rfl rfl rfl rfl ?_; intro K hK; go_big_quiet_op; go_big_quiet_on
  refine rg_val [] rfl rfl rfl (by kernel_rfl) (fun w1 hE hf => ?_) ?_
  · go_simp
    exact ((HT.out ▸ r9_text k (by omega) _)).mono fun e w' ⟨he, hw⟩ => ⟨_, he, rg_done hE hw (rfl)⟩
  simp only [Act.put, List.setIfInBounds_toArray, List.set_cons_zero, List.set_cons_succ]
  refine rg_quiet rfl rfl rfl rfl ?_; intro K hK; go_big_quiet_op; go_big_quiet_on
  refine rg_quiet rfl rfl rfl rfl ?_; intro K hK; go_big_quiet_op; go_big_quiet_on
  refine rg_val [] rfl rfl rfl (by kernel_rfl) (fun w1 hE hf => ?_) ?_
  · go_simp
    exact ((HG0.out ▸ r9_num g (by omega) (by omega) _)).mono fun e w' ⟨he, hw⟩ => ⟨_, he, rg_done hE hw (rfl)⟩
  simp only [Act.put, List.setIfInBounds_toArray, List.set_cons_zero, List.set_cons_succ]
  refine rg_quiet rfl rfl rfl rfl ?_; intro K hK; go_big_quiet_op; go_big_quiet_on
  refine rg_quiet rfl rfl rfl rfl ?_; intro K hK; go_big_quiet_op; go_big_quiet_on
  refine rg_quiet rfl rfl rfl rfl ?_; intro K hK; go_big_quiet_op; go_big_quiet_on
  refine rg_quiet rfl rfl rfl rfl ?_; intro K hK; go_big_quiet_op; go_big_quiet_on
  refine rg_val [] rfl rfl rfl (by kernel_rfl) (fun w1 hE hf => ?_) ?_
  · go_simp
    exact ((HR.out ▸ r9_num (n : Int) (by omega) (by omega) _)).mono fun e w' ⟨he, hw⟩ => ⟨_, he, rg_done hE hw (rfl)⟩
  simp only [Act.put, List.setIfInBounds_toArray, List.set_cons_zero, List.set_cons_succ]
  refine rg_quiet rfl rfl rfl rfl ?_; intro K hK; go_big_quiet_op; go_big_quiet_on
  refine rel_tail rfl rfl fun w2 hE2 _ => ?_
  clear c0 c1 c2
  have hb2 := hbx.ext hE2
  have hEw := hE0.trans hE2
  have c2 : w2.cell? ⟨w.heap.size, 2, none⟩ = some (.slice au n cu) := hb2.cell 2
  go_wp2_with fail
  go_loopw [3, 4] (fun s i wr => ∃ (j : Nat) (S : ByteArray), j ≤ n ∧ i = .int .i64 (j : Int) ∧ s = .string S ∧ Ext w2 wr ∧ Hid (S = str (B3 ++ ((ps.map (·.1)).take j).flatMap rowP))) (fun _ i _ => n - (intOf i).toNat)
  case atStart => exact ⟨0, _, Nat.zero_le _, rfl, rfl, Ext.refl w2, Lib.hid (by rw [List.take_zero, List.flatMap_nil, List.append_nil]; exact HB3.out)⟩
  case round =>
    obtain ⟨j, S, hjn, rfl, rfl, hE, HS⟩ := hrel
    have hEa := hEw.trans hE
    have htl : (((ps.map (·.1)).take j).flatMap rowP).length ≤ 300000000 := by
      have h1 := flat_le (f := rowP) (n := 300000) (l := (ps.map (·.1)).take j) (fun c hc => rowP_le (HK.out c (List.mem_of_mem_take hc)))
      have h2 : ((ps.map (·.1)).take j).length ≤ 1000 := by rw [List.length_take, List.length_map]; have := HN.out; omega
      have := Nat.mul_le_mul_right 300000 h2
      omega
    have hSl : S.size ≤ 300001027 := by rw [HS.out, str_size, List.length_append]; omega
    have c2 : wr.cell? ⟨w.heap.size, 2, none⟩ = some (.slice au n cu) := (hb2.ext hE).cell 2
    clear htl
    by_cases hlt : j < n
    · have hkc : j < ps.length := by rw [← HN.out]; exact hlt
      obtain ⟨b, o, rfl, hco⟩ := HG.out j hkc
      have hok := HK.out _ (List.mem_map_of_mem (f := (·.1)) (List.getElem_mem hkc))
      have hcol := hcols.out _ (List.getElem_mem hkc)
      obtain ⟨M, hM⟩ : ∃ M, M = ps[j] := ⟨_, rfl⟩
      rw [← hM] at hco hok hcol
      have HTK := Lib.hid (flat_take (f := rowP) (show (ps.map (·.1)).drop j = M.1 :: (ps.map (·.1)).drop (j + 1) by rw [hM, ← List.map_drop, List.drop_eq_getElem_cons hkc, List.map_cons, List.map_drop]))
      clear hM
      obtain ⟨r, mu⟩ := M
      simp only at hco hok hcol HTK
      have hcolw := hcol
      obtain ⟨ac, cc, rfl, hcc, hccm, hcg⟩ := hcol.get
      have HCG := Lib.hid hcg
      replace hco := hco.ext hEa
      obtain ⟨g0, g1, g2, g3, g4, g5, g6, g7⟩ := hco
      obtain ⟨o1, o2, o3, o4, o5, o6, o7, o8⟩ := hok
      have HO := Lib.hid o8
      obtain ⟨key, live, gone, shade, cols⟩ := r
      obtain ⟨val, dead, at_, fin⟩ := live
      simp only at o1 o2 o3 o4 o5 o6 o7 HO g0 g1 g2 g3 g4 g5 g6 g7 hcc HCG HTK
      obtain ⟨T1, hT1⟩ : ∃ T, T = txT key := ⟨_, rfl⟩
      obtain ⟨C1, hC1⟩ : ∃ T, T = str (cellP ⟨val, dead, at_, fin⟩) := ⟨_, rfl⟩
      obtain ⟨G1, hG1⟩ : ∃ T, T = str (num gone.toNat) := ⟨_, rfl⟩
      obtain ⟨D1, hD1⟩ : ∃ T, T = str (num shade.toNat) := ⟨_, rfl⟩
      obtain ⟨K1, hK1⟩ : ∃ T, T = str (num cols.length) := ⟨_, rfl⟩
      have zT : T1.size ≤ 1009 := by rw [hT1]; have := txT_size key (by omega); omega
      have zC : C1.size ≤ 1028 := by rw [hC1, str_size]; exact cellP_le o2
      have zG : G1.size ≤ 9 := by rw [hG1, str_size]; exact num_length (by omega)
      have zD : D1.size ≤ 9 := by rw [hD1, str_size]; exact num_length (by omega)
      have zK : K1.size ≤ 9 := by rw [hK1, str_size]; exact num_length (by omega)
      have q1 : ¬ 9223372036854775807 < S.size + T1.size := by omega
      have q2 : ¬ 9223372036854775807 < S.size + T1.size + C1.size := by omega
      have q3 : ¬ 9223372036854775807 < S.size + T1.size + C1.size + G1.size := by omega
      have q4 : ¬ 9223372036854775807 < S.size + T1.size + C1.size + G1.size + D1.size := by omega
      have q5 : ¬ 9223372036854775807 < S.size + T1.size + C1.size + G1.size + D1.size + K1.size := by omega
      obtain ⟨S1, hS1⟩ : ∃ X, X = S ++ T1 ++ C1 ++ G1 ++ D1 ++ K1 := ⟨_, rfl⟩
      have zS1 : S1.size ≤ 300003100 := by rw [hS1]; simp only [ByteArray.size_append]; omega
      have HS1 := Lib.hid hS1
      obtain ⟨Y, hY⟩ : ∃ Y, Y = B3 ++ ((ps.map (·.1)).take j).flatMap rowP := ⟨_, rfl⟩
      have HSY : Hid (S1 = str (Y ++ (num key.size ++ key.data.toList ++ cellP ⟨val, dead, at_, fin⟩ ++ num gone.toNat ++ num shade.toNat ++ num cols.length))) := Lib.hid (by
        rw [hS1, HS.out, hT1, hC1, hG1, hD1, hK1, hY]
        unfold txT
        simp only [str_app, List.append_assoc])
      have HR1 : Hid (B3 ++ ((ps.map (·.1)).take (j + 1)).flatMap rowP = Y ++ (num key.size ++ key.data.toList ++ cellP ⟨val, dead, at_, fin⟩ ++ num gone.toNat ++ num shade.toNat ++ num cols.length) ++ cols.flatMap colP) := Lib.hid (by
        rw [HTK.out, hY]
        unfold rowP
        simp only [List.append_assoc])
      have HT1 := Lib.hid hT1
      have HC1 := Lib.hid hC1
      have HG1 := Lib.hid hG1
      have HD1 := Lib.hid hD1
      have HK1 := Lib.hid hK1
      obtain ⟨m, hm⟩ : ∃ m, m = cols.length := ⟨_, rfl⟩
      rw [← hm] at hcc o7 HK1 g7
      have HM := Lib.hid hm
      have HOC := Lib.hid o2
      clear hT1 hC1 hG1 hD1 hK1 hS1 hY o8 hcg zT zC zG zD zK hm o2 hcol hcolw HTK
      go_wp2_with ((guard_target =~ wpList _ _ _ (Oper.mk none (Op.store _ (Operand.tmp 5) (Operand.tmp 30)) _ _ _ _ :: _) _ _); go_must (refine storeBox rfl 91 (.tmp 5) (.tmp 30) rfl (wr.heap.size) _ _ _ (by rfl) (by rfl) ((BoxAt.made wr (ro8 ⟨⟨#[]⟩, zeroCl, 0, 0, []⟩ (.slice none 0 0)) 91)) (by kernel_rfl) (by rfl) (by simp [Value.oneCell']) ?_); intro w3 d3 g3')
      have hE3 : Ext wr w3 := (((Ext.refl wr).alloc _).grown g3' (fun q hq => by cases hq; exact Nat.le_refl _))
      simp only [Act.put]
      refine wp_region_tab 22 [(3, fun v _ => v = .string T1), (7, fun v _ => v = .string C1), (11, fun v _ => v = .string G1), (15, fun v _ => v = .string D1), (20, fun v _ => v = .string K1)] (by kernel_rfl) (by kernel_rfl) (by kernel_rfl) ⟨stays_eq _, stays_eq _, stays_eq _, stays_eq _, stays_eq _, trivial⟩ ?_
      have e0 := held (show w3.cell? ⟨wr.heap.size, 0, none⟩ = some (.string key) from d3.cell 0)
      have e1 := held (show w3.cell? ⟨wr.heap.size, 1, none⟩ = some (.string val) from d3.cell 1)
      have e2 := held (show w3.cell? ⟨wr.heap.size, 2, none⟩ = some (.bool dead) from d3.cell 2)
      have e3 := held (show w3.cell? ⟨wr.heap.size, 3, none⟩ = some (.int .i64 at_) from d3.cell 3)
      have e4 := held (show w3.cell? ⟨wr.heap.size, 4, none⟩ = some (.int .i64 fin) from d3.cell 4)
      have e5 := held (show w3.cell? ⟨wr.heap.size, 5, none⟩ = some (.int .i64 gone) from d3.cell 5)
      have e6 := held (show w3.cell? ⟨wr.heap.size, 6, none⟩ = some (.int .i64 shade) from d3.cell 6)
      have e7 := held (show w3.cell? ⟨wr.heap.size, 7, none⟩ = some (.slice ac m cc) from d3.cell 7)
      refine rg_quiet rfl rfl rfl rfl ?_; intro K hK; go_big_quiet_op; go_big_quiet_on
      refine rg_quiet rfl rfl rfl rfl ?_; intro K hK; go_big_quiet_op; go_big_quiet_on
      refine rg_quiet rfl rfl rfl rfl ?_; intro K hK; go_big_quiet_op; go_big_quiet_on
      refine rg_val [] rfl rfl rfl (by kernel_rfl) (fun w1 hE hf => ?_) ?_
      · go_simp
        exact ((HT1.out ▸ r9_text key (by omega) _)).mono fun e w' ⟨he, hw⟩ => ⟨_, he, rg_done hE hw (rfl)⟩
      simp only [Act.put, List.setIfInBounds_toArray, List.set_cons_zero, List.set_cons_succ]
      refine rg_quiet rfl rfl rfl rfl ?_; intro K hK; go_big_quiet_op; go_big_quiet_on
      refine rg_quiet rfl rfl rfl rfl ?_; intro K hK; go_big_quiet_op; go_big_quiet_on
      refine rg_quiet rfl rfl rfl rfl ?_; intro K hK; go_big_quiet_op; go_big_quiet_on
      refine rg_val [] rfl rfl rfl (by kernel_rfl) (fun w1 hE hf => ?_) ?_
      · go_simp
        exact ((HC1.out ▸ r9_cell ⟨val, dead, at_, fin⟩ HOC.out _)).mono fun e w' ⟨he, hw⟩ => ⟨_, he, rg_done hE hw (rfl)⟩
      simp only [Act.put, List.setIfInBounds_toArray, List.set_cons_zero, List.set_cons_succ]
      refine rg_quiet rfl rfl rfl rfl ?_; intro K hK; go_big_quiet_op; go_big_quiet_on
      refine rg_quiet rfl rfl rfl rfl ?_; intro K hK; go_big_quiet_op; go_big_quiet_on
      refine rg_quiet rfl rfl rfl rfl ?_; intro K hK; go_big_quiet_op; go_big_quiet_on
      refine rg_val [] rfl rfl rfl (by kernel_rfl) (fun w1 hE hf => ?_) ?_
      · go_simp
        exact ((HG1.out ▸ r9_num gone (by omega) (by omega) _)).mono fun e w' ⟨he, hw⟩ => ⟨_, he, rg_done hE hw (rfl)⟩
      simp only [Act.put, List.setIfInBounds_toArray, List.set_cons_zero, List.set_cons_succ]
      refine rg_quiet rfl rfl rfl rfl ?_; intro K hK; go_big_quiet_op; go_big_quiet_on
      refine rg_quiet rfl rfl rfl rfl ?_; intro K hK; go_big_quiet_op; go_big_quiet_on
      refine rg_quiet rfl rfl rfl rfl ?_; intro K hK; go_big_quiet_op; go_big_quiet_on
      refine rg_val [] rfl rfl rfl (by kernel_rfl) (fun w1 hE hf => ?_) ?_
      · go_simp
        exact ((HD1.out ▸ r9_num shade (by omega) (by omega) _)).mono fun e w' ⟨he, hw⟩ => ⟨_, he, rg_done hE hw (rfl)⟩
      simp only [Act.put, List.setIfInBounds_toArray, List.set_cons_zero, List.set_cons_succ]
      refine rg_quiet rfl rfl rfl rfl ?_; intro K hK; go_big_quiet_op; go_big_quiet_on
      refine rg_quiet rfl rfl rfl rfl ?_; intro K hK; go_big_quiet_op; go_big_quiet_on
      refine rg_quiet rfl rfl rfl rfl ?_; intro K hK; go_big_quiet_op; go_big_quiet_on
      refine rg_quiet rfl rfl rfl rfl ?_; intro K hK; go_big_quiet_op; go_big_quiet_on
      refine rg_val [] rfl rfl rfl (by kernel_rfl) (fun w1 hE hf => ?_) ?_
      · go_simp
        exact ((HK1.out ▸ r9_num (m : Int) (by omega) (by omega) _)).mono fun e w' ⟨he, hw⟩ => ⟨_, he, rg_done hE hw (rfl)⟩
      simp only [Act.put, List.setIfInBounds_toArray, List.set_cons_zero, List.set_cons_succ]
      refine rg_quiet rfl rfl rfl rfl ?_; intro K hK; go_big_quiet_op; go_big_quiet_on
      refine rel_tail rfl rfl fun w4 hE4 _ => ?_
      clear e0 e1 e2 e3 e4 e5 e6 e7 q1 q2 q3 q4 q5
      have d4 := d3.ext hE4
      have hE34 := hE3.trans hE4
      have hEa4 := hEa.trans hE34
      go_wp2_with fail
      rw [← HS1.out]
      obtain ⟨HD, hHD⟩ : ∃ X, X = num key.size ++ key.data.toList ++ cellP ⟨val, dead, at_, fin⟩ ++ num gone.toNat ++ num shade.toNat ++ num cols.length := ⟨_, rfl⟩
      rw [← hHD] at HSY HR1
      clear hHD
      obtain ⟨wo, rfl⟩ : ∃ w', w' = wr := ⟨_, rfl⟩
      go_loopw [3, 6] (fun s i wr => ∃ (q : Nat) (Z : ByteArray), q ≤ m ∧ i = .int .i64 (q : Int) ∧ s = .string Z ∧ Ext w4 wr ∧ Z.size ≤ 300003100 + q * 2037 ∧ Hid (Z = str (Y ++ HD ++ (cols.take q).flatMap colP))) (fun _ i _ => m - (intOf i).toNat)
      case atStart => exact ⟨0, _, Nat.zero_le _, rfl, rfl, Ext.refl w4, by omega, Lib.hid (by rw [List.take_zero, List.flatMap_nil, List.append_nil]; exact HSY.out)⟩
      case round =>
        obtain ⟨q, Z, hqm, rfl, rfl, hE5, hZ, HZ⟩ := hrel
        have d5 := d4.ext hE5
        have e7 : wr.cell? ⟨wo.heap.size, 7, none⟩ = some (.slice ac m cc) := d5.cell 7
        by_cases hlq : q < m
        · have hqc : q < cols.length := by rw [← HM.out]; exact hlq
          obtain ⟨bc, oc, rfl, hcc5⟩ := HCG.out q hqc
          have hoc := HO.out _ (List.getElem_mem hqc)
          obtain ⟨c, hc⟩ : ∃ c, c = cols[q] := ⟨_, rfl⟩
          rw [← hc] at hcc5 hoc
          have HTQ := Lib.hid (flat_take (f := colP) (show cols.drop q = c :: cols.drop (q + 1) by rw [hc]; exact List.drop_eq_getElem_cons hqc))
          clear hc
          replace hcc5 := hcc5.ext ((hEa.trans hE34).trans hE5)
          obtain ⟨y0, y1, y2, y3, y4⟩ := hcc5
          obtain ⟨p1, p2⟩ := hoc
          obtain ⟨name, mval, mdead, mat, mfin⟩ := c
          simp only at y0 y1 y2 y3 y4 p1 p2
          have HP2 := Lib.hid p2
          obtain ⟨T2, hT2⟩ : ∃ T, T = txT name := ⟨_, rfl⟩
          obtain ⟨C2, hC2⟩ : ∃ T, T = str (cellP ⟨mval, mdead, mat, mfin⟩) := ⟨_, rfl⟩
          have zT : T2.size ≤ 1009 := by rw [hT2]; have := txT_size name (by omega); omega
          have zC : C2.size ≤ 1028 := by rw [hC2, str_size]; exact cellP_le p2
          have q1 : ¬ 9223372036854775807 < Z.size + T2.size := by omega
          have q2 : ¬ 9223372036854775807 < Z.size + T2.size + C2.size := by omega
          have t1 : decide ((q : Int) < (m : Int)) = true := by simp; omega
          have HT2 := Lib.hid hT2
          have HC2 := Lib.hid hC2
          clear hT2 hC2 p2
          replace y0 := held y0
          replace y1 := held y1
          replace y2 := held y2
          replace y3 := held y3
          replace y4 := held y4
          have e7' := held e7
          go_wp2_with fail
          refine wp_region_tab 17 [(7, fun v _ => v = .string T2), (15, fun v _ => v = .string C2)] (by kernel_rfl) (by kernel_rfl) (by kernel_rfl) ⟨stays_eq _, stays_eq _, trivial⟩ ?_
          refine rg_quiet rfl rfl rfl rfl ?_; intro K hK; go_big_quiet_op; go_big_quiet_on
          refine rg_quiet rfl rfl rfl rfl ?_; intro K hK; go_big_quiet_op; go_big_quiet_on
          refine rg_quiet rfl rfl rfl rfl ?_; intro K hK; go_big_quiet_op; go_big_quiet_on
          refine rg_quiet rfl rfl rfl rfl ?_; intro K hK; go_big_quiet_op; go_big_quiet_on
          refine rg_quiet rfl rfl rfl rfl ?_; intro K hK; go_big_quiet_op; go_big_quiet_on
          refine rg_quiet rfl rfl rfl rfl ?_; intro K hK; go_big_quiet_op; go_big_quiet_on
          refine rg_quiet rfl rfl rfl rfl ?_; intro K hK; go_big_quiet_op; go_big_quiet_on
          refine rg_val [] rfl rfl rfl (by kernel_rfl) (fun w1 hE hf => ?_) ?_
          · go_simp
            exact ((HT2.out ▸ r9_text name (by omega) _)).mono fun e w' ⟨he, hw⟩ => ⟨_, he, rg_done hE hw (rfl)⟩
          simp only [Act.put, List.setIfInBounds_toArray, List.set_cons_zero, List.set_cons_succ]
          refine rg_quiet rfl rfl rfl rfl ?_; intro K hK; go_big_quiet_op; go_big_quiet_on
          refine rg_quiet rfl rfl rfl rfl ?_; intro K hK; go_big_quiet_op; go_big_quiet_on
          refine rg_quiet rfl rfl rfl rfl ?_; intro K hK; go_big_quiet_op; go_big_quiet_on
          refine rg_quiet rfl rfl rfl rfl ?_; intro K hK; go_big_quiet_op; go_big_quiet_on
          refine rg_quiet rfl rfl rfl rfl ?_; intro K hK; go_big_quiet_op; go_big_quiet_on
          refine rg_quiet rfl rfl rfl rfl ?_; intro K hK; go_big_quiet_op; go_big_quiet_on
          refine rg_quiet rfl rfl rfl rfl ?_; intro K hK; go_big_quiet_op; go_big_quiet_on
          refine rg_val [] rfl rfl rfl (by kernel_rfl) (fun w1 hE hf => ?_) ?_
          · go_simp
            exact ((HC2.out ▸ r9_cell ⟨mval, mdead, mat, mfin⟩ HP2.out _)).mono fun e w' ⟨he, hw⟩ => ⟨_, he, rg_done hE hw (rfl)⟩
          simp only [Act.put, List.setIfInBounds_toArray, List.set_cons_zero, List.set_cons_succ]
          refine rg_quiet rfl rfl rfl rfl ?_; intro K hK; go_big_quiet_op; go_big_quiet_on
          refine rel_tail rfl rfl fun w6 hE6 _ => ?_
          clear y0 y1 y2 y3 y4 e7'
          go_wp2_with fail
          go_roundw
          case rel => exact ⟨q + 1, _, hlq, by go_num, rfl, hE5.trans hE6, by simp only [ByteArray.size_append]; omega, Lib.hid (by
            rw [HTQ.out, HZ.out, HT2.out, HC2.out]
            unfold colP txT
            simp only [str_app, List.append_assoc])⟩
          case measure => simp [intOf]; omega
        · obtain rfl : q = m := by omega
          have HF : Hid (Z = str (B3 ++ ((ps.map (·.1)).take (j + 1)).flatMap rowP)) := Lib.hid (by rw [HR1.out, HZ.out, List.take_of_length_le (by rw [HM.out]; exact Nat.le_refl _)])
          go_wp2_with fail
          go_roundw
          case rel => exact ⟨j + 1, _, by omega, by go_num, rfl, (hE.trans hE34).trans hE5, HF⟩
          case measure => simp [intOf]; omega
    · obtain rfl : j = n := by omega
      have HF : Hid (S = str (B3 ++ (ps.map (·.1)).flatMap rowP)) := Lib.hid (by rw [HS.out, List.take_of_length_le (by rw [List.length_map, HN.out]; exact Nat.le_refl _)])
      go_wp2_with fail
      go_ret
      exact ⟨ret_str HF.out, hEa⟩
end Go.Proofs.YtcmgeccgahakbaaDoor

/- The reference of chapter 9: Part. -/
namespace Go.Proofs.YtcmgeccgahakbaaDoor
open Go Go.RowKit
attribute [local go_sem] yields yUpon

set_option maxRecDepth 100000 in
set_option maxHeartbeats 2000000 in
theorem r9_part (k : ByteArray) (g : Int) (u : Value) (ps : List (Ro × Value)) (w : World) (hin : RowsIn w u ps) (hlow : ∀ p ∈ ps, ∀ c ∈ p.1.cols, c.name.size ≤ 1000000) :
    Calls Tryd.prog 14 #[.agg #[.string k, .int .i64 g, u]] w fun e w' => e = .returned (.tuple #[.string (str (partR k g (ps.map (·.1))).1), .int .i64 (partR k g (ps.map (·.1))).2]) ∧ Ext w w' := by
  have hE0 := (Ext.refl w).alloc (.cells #[.string k, .int .i64 g, u] 24)
  have hbx := BoxAt.made w #[.string k, .int .i64 g, u] 24
  have hin0 := hin.ext hE0
  obtain ⟨au, cu, rfl, _⟩ := hin.get
  have y0 : (w.alloc (.cells #[.string k, .int .i64 g, .slice au ps.length cu] 24)).cell? ⟨w.heap.size, 0, none⟩ = some (.string k) := hbx.cell 0
  have y1 : (w.alloc (.cells #[.string k, .int .i64 g, .slice au ps.length cu] 24)).cell? ⟨w.heap.size, 1, none⟩ = some (.int .i64 g) := hbx.cell 1
  have y2 : (w.alloc (.cells #[.string k, .int .i64 g, .slice au ps.length cu] 24)).cell? ⟨w.heap.size, 2, none⟩ = some (.slice au ps.length cu) := hbx.cell 2
  cases hq : ptB k g (ps.map (·.1))
  · have e : Hid (partR k g (ps.map (·.1)) = ([], 1)) := Lib.hid (by unfold partR; rw [hq]; rfl)
    rw [e.out]
    have HQ := Lib.hid hq
    clear hq e
    go_enter Tryd.func14, Tryd.ntmps14
    go_wp2_with (go_at_call 50; go_must (refine (check8_any k g _ ps _ hin0 hlow).mono ?_); rintro e w1 ⟨rfl, hE1⟩; rw [HQ.out])
    go_ret2
    exact ⟨rfl, hE0.trans hE1⟩
  · have hok := ptB_ok hq
    have hwl := wholeP_le hok
    have HQ := Lib.hid hq
    have HO := Lib.hid hok
    obtain ⟨S, hS⟩ : ∃ S, S = str (wholeP k g (ps.map (·.1))) := ⟨_, rfl⟩
    have hSz : S.size = (wholeP k g (ps.map (·.1))).length := by rw [hS, str_size]
    have HS := Lib.hid hS
    by_cases hlen : (wholeP k g (ps.map (·.1))).length ≤ 262144
    · have e : Hid (partR k g (ps.map (·.1)) = (wholeP k g (ps.map (·.1)), 0)) := Lib.hid (by unfold partR; rw [hq, if_pos hlen]; rfl)
      rw [e.out]
      simp only
      rw [← hS]
      have hlt : ¬ (262144 : Int) < (S.size : Int) := by omega
      clear hq e hlen hwl hok hS hSz
      go_enter Tryd.func14, Tryd.ntmps14
      go_wp2_with (first
        | (go_at_call 50; go_must (refine (check8_any k g _ ps _ hin0 hlow).mono ?_); rintro e w1 ⟨rfl, hE1⟩; rw [HQ.out]; have hb1 := hbx.ext hE1; have c0 : w1.cell? ⟨w.heap.size, 0, none⟩ = some (.string k) := hb1.cell 0; have c1 : w1.cell? ⟨w.heap.size, 1, none⟩ = some (.int .i64 g) := hb1.cell 1; have c2 : w1.cell? ⟨w.heap.size, 2, none⟩ = some (.slice au ps.length cu) := hb1.cell 2)
        | (go_at_call 57; go_must (refine (r9_bytes k g _ ps HO.out _ (hin0.ext hE1)).mono ?_); rintro e w2 ⟨rfl, hE2⟩; rw [← HS.out]))
      go_ret2
      exact ⟨rfl, (hE0.trans hE1).trans hE2⟩
    · have e : Hid (partR k g (ps.map (·.1)) = ([], 2)) := Lib.hid (by unfold partR; rw [hq, if_neg hlen]; rfl)
      rw [e.out]
      have hlt : decide ((262144 : Int) < (S.size : Int)) = true := by simp; omega
      clear hq e hlen hwl hok hS hSz
      go_enter Tryd.func14, Tryd.ntmps14
      go_wp2_with (first
        | (go_at_call 50; go_must (refine (check8_any k g _ ps _ hin0 hlow).mono ?_); rintro e w1 ⟨rfl, hE1⟩; rw [HQ.out]; have hb1 := hbx.ext hE1; have c0 : w1.cell? ⟨w.heap.size, 0, none⟩ = some (.string k) := hb1.cell 0; have c1 : w1.cell? ⟨w.heap.size, 1, none⟩ = some (.int .i64 g) := hb1.cell 1; have c2 : w1.cell? ⟨w.heap.size, 2, none⟩ = some (.slice au ps.length cu) := hb1.cell 2)
        | (go_at_call 57; go_must (refine (r9_bytes k g _ ps HO.out _ (hin0.ext hE1)).mono ?_); rintro e w2 ⟨rfl, hE2⟩; rw [← HS.out]))
      go_ret2
      exact ⟨rfl, (hE0.trans hE1).trans hE2⟩
end Go.Proofs.YtcmgeccgahakbaaDoor

/- clerestoryref23.Sums of any list of partitions (configuration that may be). -/
namespace Go.Proofs.YtcmgeccgahakbaaDoor
open Go Go.RowKit
attribute [local go_sem] yields yUpon

theorem bodyP_le (p : Pa) : (bodyP p).length ≤ 262144 := by
  unfold bodyP partR
  split
  · split
    · assumption
    · simp
  · simp

set_option maxRecDepth 100000 in
set_option maxHeartbeats 16000000 in
theorem sums23_yes (n c : Nat) (t : Int) (hc : confB n c t = true) (v : Value) (L : List Pa) (x y : Int) (w : World) (hin : PartsIn w v L) (hlen : L.length ≤ 1000000) (hkey : ∀ p ∈ L, p.key.size ≤ maxLen) (hlow : ∀ p ∈ L, ∀ q ∈ p.ps, ∀ d ∈ q.1.cols, d.name.size ≤ 1000000) :
    Calls Tryd.prog 41 #[.agg #[.int .i64 (n : Int), .int .i64 (c : Int), .int .i64 t], v, .int .i64 x, .int .i64 y] w fun e w' => ∃ v', (e = .returned v' ∧ Ext w w') ∧ w'.ownsRow w.heap.size 3 1 v' 16 (kcells .i64 (sumsL n c x y L)) := by
  have b0 := BoxAt.made w #[.int .i64 (n : Int), .int .i64 (c : Int), .int .i64 t] 67
  have hE0 := (Ext.refl w).alloc (.cells #[.int .i64 (n : Int), .int .i64 (c : Int), .int .i64 t] 67)
  have x0 : (w.alloc (.cells #[.int .i64 (n : Int), .int .i64 (c : Int), .int .i64 t] 67)).cell? ⟨w.heap.size, 0, none⟩ = some (.int .i64 (n : Int)) := b0.cell 0
  have x1 : (w.alloc (.cells #[.int .i64 (n : Int), .int .i64 (c : Int), .int .i64 t] 67)).cell? ⟨w.heap.size, 1, none⟩ = some (.int .i64 (c : Int)) := b0.cell 1
  have x2 : (w.alloc (.cells #[.int .i64 (n : Int), .int .i64 (c : Int), .int .i64 t] 67)).cell? ⟨w.heap.size, 2, none⟩ = some (.int .i64 t) := b0.cell 2
  have HC := Lib.hid hc
  have HI := Lib.hid hin
  obtain ⟨a, cc, rfl, hcc, hccm, hcell⟩ := hin.get
  have HL := Lib.hid hcell
  have HK := Lib.hid hkey
  have HLo := Lib.hid hlow
  clear hin hc hcell hkey hlow
  obtain ⟨m, hm⟩ : ∃ m, m = L.length := ⟨_, rfl⟩
  have HM := Lib.hid hm
  rw [← hm] at hcc hlen HI ⊢
  clear hm
  go_enter Tryd.func41, Tryd.ntmps41
  go_wp2_with (go_at_call 103; go_must (refine (rcheck20_any n c t _).mono ?_); rintro e w1 ⟨rfl, hE1⟩; rw [HC.out])
  have b1 := b0.ext hE1
  have hE01 := hE0.trans hE1
  clear x0 x1 x2 b0 hE0 hE1
  go_loopw [9, 10] (fun vl i wr => ∃ (k : Nat) (va : Value), k ≤ 16 ∧ i = .int .i64 k ∧ vl = va ∧ wr.ownsRow w1.heap.size 3 1 va k (kcells .i64 ((sumsL n c x y L).take k)) ∧ Ext w1 wr) (fun _ i _ => 16 - (intOf i).toNat)
  case atStart => exact ⟨0, _, Nat.zero_le _, rfl, rfl, World.ownsRow_nil _ _ _ _, Ext.refl _⟩
  case round =>
    obtain ⟨k, va, hk, rfl, rfl, hown, hE⟩ := hrel
    obtain ⟨al, cl, rfl⟩ := own_shape hown
    by_cases hlt : k < 16
    · have t0 : decide ((k : Int) < 16) = true := by simp; omega
      go_wp2_with fail
      obtain ⟨wo, rfl⟩ : ∃ w', w' = wr := ⟨_, rfl⟩
      go_loopw [11, 12] (fun s i wr => ∃ (j : Nat) (S : ByteArray), j ≤ m ∧ i = .int .i64 j ∧ s = .string S ∧ S.size ≤ j * 262144 ∧ Hid (S = str (((L.take j).filter (inB n c x y k)).flatMap bodyP)) ∧ Ext wo wr) (fun _ i _ => m - (intOf i).toNat)
      case atStart => exact ⟨0, ⟨#[]⟩, Nat.zero_le _, rfl, rfl, by simp [ByteArray.size], Lib.hid rfl, Ext.refl _⟩
      case round =>
        obtain ⟨j, S, hj, rfl, rfl, hSz, HS, hE2⟩ := hrel
        have hX := hE.trans hE2
        by_cases hjm : j < m
        · have hjl : j < L.length := by rw [← HM.out]; exact hjm
          obtain ⟨b, o, rfl, hpa⟩ := HL.out j hjl
          replace hpa := hpa.ext (hE01.trans hX)
          have hmem : L[j] ∈ L := List.getElem_mem hjl
          have hr := (HI.out.rows _ hmem).ext (hE01.trans hX)
          have hks := HK.out _ hmem
          have hlo := Lib.hid (HLo.out _ hmem)
          obtain ⟨p, hp⟩ : ∃ p, p = L[j] := ⟨_, rfl⟩
          have HTK : Hid (L.take (j + 1) = L.take j ++ [p]) := Lib.hid (by rw [List.take_succ_eq_append_getElem hjl, hp])
          rw [← hp] at hpa hr hks hlo
          clear hp hmem
          obtain ⟨pk, pg, pu, ps⟩ := p
          have HPA := Lib.hid hpa
          obtain ⟨p0, p1, p2⟩ := hpa
          replace hr : RowsIn wr pu ps := hr
          replace hks : pk.size ≤ maxLen := hks
          replace p0 : wr.cell? ⟨b, o + j * 3, none⟩ = some (.string pk) := p0
          replace p1 : wr.cell? ⟨b, o + j * 3 + 1, none⟩ = some (.int .i64 pg) := p1
          replace p2 : wr.cell? ⟨b, o + j * 3 + 2, none⟩ = some pu := p2
          have HR := Lib.hid hr
          obtain ⟨au, cu, rfl, _⟩ := hr.get
          have z := b1.ext hX
          have c0 : wr.cell? ⟨w.heap.size, 0, none⟩ = some (.int .i64 (n : Int)) := z.cell 0
          have c1 : wr.cell? ⟨w.heap.size, 1, none⟩ = some (.int .i64 (c : Int)) := z.cell 1
          have c2 : wr.cell? ⟨w.heap.size, 2, none⟩ = some (.int .i64 t) := z.cell 2
          replace p0 := held p0
          replace c0 := held c0
          replace c1 := held c1
          replace c2 := held c2
          have t1 : decide ((j : Int) < (m : Int)) = true := by simp; omega
          clear hr z
          obtain ⟨bk, hbk⟩ : ∃ bk, bk = bucket1 pk := ⟨_, rfl⟩
          have HBK := Lib.hid hbk
          obtain ⟨B, hB⟩ : ∃ B, B = (ownN n c (place1 pk) x && ownN n c (place1 pk) y) := ⟨_, rfl⟩
          have HB := Lib.hid hB
          clear hB hbk
          by_cases hbe : bk = k
          · have hbi : ((bk : Int) == (k : Int)) = true := by rw [hbe]; simp
            have HBE := Lib.hid hbe
            clear hbe
            go_wp2_with fail
            refine wp_region_tab 19 [(5, fun v _ => v = .int .i64 (bk : Int)), (17, fun v _ => v = .bool B)] (by kernel_rfl) (by kernel_rfl) (by kernel_rfl) ⟨stays_eq _, stays_eq _, trivial⟩ ?_
            refine rg_quiet rfl rfl rfl rfl ?_; intro K hK; go_big_quiet_op; go_big_quiet_on
            refine rg_quiet rfl rfl rfl rfl ?_; intro K hK; go_big_quiet_op; go_big_quiet_on
            refine rg_quiet rfl rfl rfl rfl ?_; intro K hK; go_big_quiet_op; go_big_quiet_on
            refine rg_quiet rfl rfl rfl rfl ?_; intro K hK; go_big_quiet_op; go_big_quiet_on
            refine rg_quiet rfl rfl rfl rfl ?_; intro K hK; go_big_quiet_op; go_big_quiet_on
            refine rg_val [] rfl rfl rfl (by kernel_rfl) (fun w1 hE hf => ?_) ?_
            · go_simp
              exact ((HBK.out ▸ rbucket_any pk hks _)).mono fun e w' ⟨he, hw⟩ => ⟨_, he, rg_done hE hw (rfl)⟩
            simp only [Act.put, List.setIfInBounds_toArray, List.set_cons_zero, List.set_cons_succ]
            refine rg_quiet rfl rfl rfl rfl ?_; intro K hK; go_big_quiet_op; go_big_quiet_on
            refine rg_quiet rfl rfl rfl rfl ?_; intro K hK; go_big_quiet_op; go_big_quiet_on
            refine rg_quiet rfl rfl rfl rfl ?_; intro K hK; go_big_quiet_op; go_big_quiet_on
            refine rg_quiet rfl rfl rfl rfl ?_; intro K hK; go_big_quiet_op; go_big_quiet_on
            refine rg_quiet rfl rfl rfl rfl ?_; intro K hK; go_big_quiet_op; go_big_quiet_on
            refine rg_quiet rfl rfl rfl rfl ?_; intro K hK; go_big_quiet_op; go_big_quiet_on
            refine rg_quiet rfl rfl rfl rfl ?_; intro K hK; go_big_quiet_op; go_big_quiet_on
            refine rg_quiet rfl rfl rfl rfl ?_; intro K hK; go_big_quiet_op; go_big_quiet_on
            refine rg_quiet rfl rfl rfl rfl ?_; intro K hK; go_big_quiet_op; go_big_quiet_on
            refine rg_quiet rfl rfl rfl rfl ?_; intro K hK; go_big_quiet_op; go_big_quiet_on
            refine rg_quiet rfl rfl rfl rfl ?_; intro K hK; go_big_quiet_op; go_big_quiet_on
            refine rg_val [] rfl rfl rfl (by kernel_rfl) (fun w1 hE hf => ?_) ?_
            · go_simp
              exact ((HB.out ▸ both23_yes n c t HC.out pk hks x y _)).mono fun e w' ⟨he, hw⟩ => ⟨_, he, rg_done hE hw (rfl)⟩
            simp only [Act.put, List.setIfInBounds_toArray, List.set_cons_zero, List.set_cons_succ]
            refine rg_quiet rfl rfl rfl rfl ?_; intro K hK; go_big_quiet_op; go_big_quiet_on
            refine rel_nil fun w2 hE3 _ => ?_
            have h2 := HPA.out.ext hE3
            have hX2 := hX.trans hE3
            clear p0 p1 p2 c0 c1 c2
            have p0 : w2.cell? ⟨b, o + j * 3, none⟩ = some (.string pk) := h2.c0
            have p1 : w2.cell? ⟨b, o + j * 3 + 1, none⟩ = some (.int .i64 pg) := h2.c1
            have p2 : w2.cell? ⟨b, o + j * 3 + 2, none⟩ = some (.slice au ps.length cu) := h2.c2
            cases B
            · have HIN : Hid (inB n c x y k ⟨pk, pg, .slice au ps.length cu, ps⟩ = false) := Lib.hid (by unfold inB bothP; simp only; rw [← HB.out]; rfl)
              go_wp2_with fail
              go_roundw
              case rel => exact ⟨j + 1, S, hjm, by go_num, rfl, Nat.le_trans hSz (Nat.mul_le_mul_right _ (Nat.le_succ j)), Lib.hid (by rw [HTK.out, List.filter_append, show [(⟨pk, pg, .slice au ps.length cu, ps⟩ : Pa)].filter (inB n c x y k) = [] by simp [HIN.out], List.append_nil]; exact HS.out), hE2.trans hE3⟩
              case measure => simp [intOf]; omega
            · have HIN : Hid (inB n c x y k ⟨pk, pg, .slice au ps.length cu, ps⟩ = true) := Lib.hid (by unfold inB bothP; simp only; rw [← HB.out, ← HBK.out, HBE.out]; simp)
              obtain ⟨D, hD⟩ : ∃ D, D = str (partR pk pg (ps.map (·.1))).1 := ⟨_, rfl⟩
              have hDz : D.size ≤ 262144 := by rw [hD, str_size]; exact bodyP_le ⟨pk, pg, .slice au ps.length cu, ps⟩
              have HD := Lib.hid hD
              have q1 : ¬ 9223372036854775807 < S.size + D.size := by omega
              clear hD
              go_wp2_with (go_at_call 14; go_must (refine (r9_part pk pg _ ps _ (HR.out.ext hE3) hlo.out).mono ?_); rintro e w4 ⟨rfl, hE4⟩; rw [← HD.out])
              go_roundw
              case rel => exact ⟨j + 1, _, hjm, by go_num, rfl, by simp only [ByteArray.size_append]; omega, Lib.hid (by rw [HTK.out, List.filter_append, show [(⟨pk, pg, .slice au ps.length cu, ps⟩ : Pa)].filter (inB n c x y k) = [⟨pk, pg, .slice au ps.length cu, ps⟩] by simp [HIN.out], HS.out, HD.out, str_app, List.flatMap_append]; simp [bodyP]), (hE2.trans hE3).trans hE4⟩
              case measure => simp [intOf]; omega
          · have HIN : Hid (inB n c x y k ⟨pk, pg, .slice au ps.length cu, ps⟩ = false) := Lib.hid (by unfold inB; simp only; rw [← HBK.out]; simp [hbe])
            have hbi : ((bk : Int) == (k : Int)) = false := by simp; omega
            go_wp2_with fail
            refine wp_region_tab 19 [(5, fun v _ => v = .int .i64 (bk : Int))] (by kernel_rfl) (by kernel_rfl) (by kernel_rfl) ⟨stays_eq _, trivial⟩ ?_
            refine rg_quiet rfl rfl rfl rfl ?_; intro K hK; go_big_quiet_op; go_big_quiet_on
            refine rg_quiet rfl rfl rfl rfl ?_; intro K hK; go_big_quiet_op; go_big_quiet_on
            refine rg_quiet rfl rfl rfl rfl ?_; intro K hK; go_big_quiet_op; go_big_quiet_on
            refine rg_quiet rfl rfl rfl rfl ?_; intro K hK; go_big_quiet_op; go_big_quiet_on
            refine rg_quiet rfl rfl rfl rfl ?_; intro K hK; go_big_quiet_op; go_big_quiet_on
            refine rg_val [] rfl rfl rfl (by kernel_rfl) (fun w1 hE hf => ?_) ?_
            · go_simp
              exact ((HBK.out ▸ rbucket_any pk hks _)).mono fun e w' ⟨he, hw⟩ => ⟨_, he, rg_done hE hw (rfl)⟩
            simp only [Act.put, List.setIfInBounds_toArray, List.set_cons_zero, List.set_cons_succ]
            refine rg_quiet rfl rfl rfl rfl ?_; intro K hK; go_big_quiet_op; go_big_quiet_on
            refine rg_quiet rfl rfl rfl rfl ?_; intro K hK; go_big_quiet_op; go_big_quiet_on
            refine rg_quiet rfl rfl rfl rfl ?_; intro K hK; go_big_quiet_op; go_big_quiet_on
            refine rel_skip rfl rfl ?_
            simp only [Act.put, List.setIfInBounds_toArray, List.set_cons_zero, List.set_cons_succ]
            refine rel_skip rfl rfl ?_
            simp only [Act.put, List.setIfInBounds_toArray, List.set_cons_zero, List.set_cons_succ]
            refine rel_skip rfl rfl ?_
            simp only [Act.put, List.setIfInBounds_toArray, List.set_cons_zero, List.set_cons_succ]
            refine rel_skip rfl rfl ?_
            simp only [Act.put, List.setIfInBounds_toArray, List.set_cons_zero, List.set_cons_succ]
            refine rel_skip rfl rfl ?_
            simp only [Act.put, List.setIfInBounds_toArray, List.set_cons_zero, List.set_cons_succ]
            refine rel_skip rfl rfl ?_
            simp only [Act.put, List.setIfInBounds_toArray, List.set_cons_zero, List.set_cons_succ]
            refine rel_skip rfl rfl ?_
            simp only [Act.put, List.setIfInBounds_toArray, List.set_cons_zero, List.set_cons_succ]
            refine rel_skip rfl rfl ?_
            simp only [Act.put, List.setIfInBounds_toArray, List.set_cons_zero, List.set_cons_succ]
            refine rel_skip rfl rfl ?_
            simp only [Act.put, List.setIfInBounds_toArray, List.set_cons_zero, List.set_cons_succ]
            refine rg_quiet rfl rfl rfl rfl ?_; intro K hK; go_big_quiet_op; go_big_quiet_on
            refine rel_nil fun w2 hE3 _ => ?_
            clear p0 p1 p2 c0 c1 c2
            go_wp2_with fail
            go_roundw
            case rel => exact ⟨j + 1, S, hjm, by go_num, rfl, Nat.le_trans hSz (Nat.mul_le_mul_right _ (Nat.le_succ j)), Lib.hid (by rw [HTK.out, List.filter_append, show [(⟨pk, pg, .slice au ps.length cu, ps⟩ : Pa)].filter (inB n c x y k) = [] by simp [HIN.out], List.append_nil]; exact HS.out), hE2.trans hE3⟩
            case measure => simp [intOf]; omega
        · obtain rfl : j = m := by omega
          have hSm : S.size ≤ maxLen := by unfold maxLen; have := Nat.mul_le_mul_right 262144 hlen; omega
          have HT : Hid (((tok 1 S.data.toList : Nat) : Int) = (sumAt n c x y L k : Int)) := Lib.hid (by
            have h := HS.out
            rw [List.take_of_length_le (by rw [← HM.out]; exact Nat.le_refl _)] at h
            rw [h]
            rfl)
          have HSU : Hid (kcells .i64 ((sumsL n c x y L).take (k + 1)) = kcells .i64 ((sumsL n c x y L).take k) ++ [.int .i64 (sumAt n c x y L k : Int)]) := Lib.hid (by
            have hl : k < (sumsL n c x y L).length := by simp [sumsL]; omega
            rw [List.take_succ_eq_append_getElem hl]
            simp [kcells, sumsL])
          have hown2 := ownsRow_ext hown hE2
          go_wp2_with (first
            | (go_at_call 104; go_must (refine (rof_any S hSm _).mono ?_); rintro e w5 ⟨rfl, rfl⟩; rw [HT.out])
            | (at_builtin; go_must (refine appR info_intX und_intsX rfl (by decide) wr rfl (.tmp 58) (.tmp 61) rfl w1.heap.size hX.le (.slice al k cl) k _ hown2 (by rfl) 1 _ (by rfl) (by rfl) (by simp [Value.oneCell']) (by unfold maxLen; omega) (by omega) ?_); intro v6 w6 ho6 hg6))
          go_roundw
          case rel => exact ⟨k + 1, _, by omega, by go_num, rfl, by rw [HSU.out]; exact ho6, (hX.alloc _).grown hg6 (fun q hq => (hown2.lt q hq).1)⟩
          case measure => simp [intOf]; omega
    · obtain rfl : k = 16 := by omega
      go_wp2_with fail
      go_ret
      refine ⟨_, ⟨rfl, hE01.trans hE⟩, ?_⟩
      rw [List.take_of_length_le (by simp [sumsL])] at hown
      exact ownsRow_base hown hE01.le
end Go.Proofs.YtcmgeccgahakbaaDoor

/- Configurations that may not be: no node owns anything. -/
namespace Go.Proofs.YtcmgeccgahakbaaDoor
open Go Go.RowKit
attribute [local go_sem] yields yUpon

set_option maxHeartbeats 8000000 in
theorem round_no (n c t : Int) (hc : confB n c t = false) (key : ByteArray) (w : World) :
    Calls Tryd.prog 167 #[.agg #[.int .i64 n, .int .i64 c, .int .i64 t], .string key] w fun e w' => e = .returned (.tuple #[.agg (ringA 0 0 0), .int .i64 0]) ∧ Ext w w' := by
  have h2 := boxes2 w #[.int .i64 n, .int .i64 c, .int .i64 t] #[.int .i64 0, .int .i64 0, .int .i64 0, .int .i64 0, .int .i64 0] 67 208
  have HC := Lib.hid hc
  clear hc
  go_enter Tryd.func167, Tryd.ntmps167
  go_wp2_with (first
    | (go_at_call 100; go_must (refine (rgcheck_any n c t _).mono ?_); rintro e w1 ⟨rfl, hE1⟩; rw [HC.out]; have b2 := h2.2.1.ext hE1; have hE := h2.2.2.trans hE1; have z0 : w1.cell? ⟨w.heap.size + 1, 0, none⟩ = some (.int .i64 0) := b2.cell 0; have z1 : w1.cell? ⟨w.heap.size + 1, 1, none⟩ = some (.int .i64 0) := b2.cell 1; have z2 : w1.cell? ⟨w.heap.size + 1, 2, none⟩ = some (.int .i64 0) := b2.cell 2; have z3 : w1.cell? ⟨w.heap.size + 1, 3, none⟩ = some (.int .i64 0) := b2.cell 3; have z4 : w1.cell? ⟨w.heap.size + 1, 4, none⟩ = some (.int .i64 0) := b2.cell 4; have zf := b2.free))
  have b5 := ((((b2.set 0 (.int .i64 0)).set 1 (.int .i64 0)).set 2 (.int .i64 0)).set 3 (.int .i64 0)).set 4 (.int .i64 0)
  have hE5 := ((((hE.setCell (p := ⟨w.heap.size + 1, 0, none⟩) (Nat.le_succ _) (.int .i64 0)).setCell (p := ⟨w.heap.size + 1, 1, none⟩) (Nat.le_succ _) (.int .i64 0)).setCell (p := ⟨w.heap.size + 1, 2, none⟩) (Nat.le_succ _) (.int .i64 0)).setCell (p := ⟨w.heap.size + 1, 3, none⟩) (Nat.le_succ _) (.int .i64 0)).setCell (p := ⟨w.heap.size + 1, 4, none⟩) (Nat.le_succ _) (.int .i64 0)
  refine bodyPost_ret (v := .tuple #[.agg #[.int .i64 0, .int .i64 0, .int .i64 0, .int .i64 0, .int .i64 0], .int .i64 0]) ?_ rfl ⟨by rw [ringA_zero], hE5⟩
  generalize hW : World.setCell _ _ _ = wz at b5 ⊢
  have z0 : wz.cell? ⟨w.heap.size + 1, 0, none⟩ = some (.int .i64 0) := b5.cell 0
  have z1 : wz.cell? ⟨w.heap.size + 1, 1, none⟩ = some (.int .i64 0) := b5.cell 1
  have z2 : wz.cell? ⟨w.heap.size + 1, 2, none⟩ = some (.int .i64 0) := b5.cell 2
  have z3 : wz.cell? ⟨w.heap.size + 1, 3, none⟩ = some (.int .i64 0) := b5.cell 3
  have z4 : wz.cell? ⟨w.heap.size + 1, 4, none⟩ = some (.int .i64 0) := b5.cell 4
  simp [results, Tryd.results167, go_sem, z0, z1, z2, z3, z4]

set_option maxHeartbeats 8000000 in
theorem pair_no (n c t : Int) (hc : confB n c t = false) (base view : ByteArray) (x : Int) (w : World) :
    Calls Tryd.prog 158 #[.agg #[.int .i64 n, .int .i64 c, .int .i64 t], .string base, .string view, .int .i64 x] w fun e w' => ∃ v, e = .returned (.tuple #[v, .bool false]) ∧ Ext w w' := by
  have b0 := BoxAt.made w #[.int .i64 n, .int .i64 c, .int .i64 t] 67
  have hE0 := (Ext.refl w).alloc (.cells #[.int .i64 n, .int .i64 c, .int .i64 t] 67)
  have x0 : (w.alloc (.cells #[.int .i64 n, .int .i64 c, .int .i64 t] 67)).cell? ⟨w.heap.size, 0, none⟩ = some (.int .i64 n) := b0.cell 0
  have x1 : (w.alloc (.cells #[.int .i64 n, .int .i64 c, .int .i64 t] 67)).cell? ⟨w.heap.size, 1, none⟩ = some (.int .i64 c) := b0.cell 1
  have x2 : (w.alloc (.cells #[.int .i64 n, .int .i64 c, .int .i64 t] 67)).cell? ⟨w.heap.size, 2, none⟩ = some (.int .i64 t) := b0.cell 2
  have HC := Lib.hid hc
  clear hc
  go_enter Tryd.func158, Tryd.ntmps158
  go_wp2_with (first
    | (go_at_call 167; have q := hX2; go_must (refine (round_no n c t HC.out view _).mono ?_); rintro e w3 ⟨rfl, hE3⟩)
    | (go_at_call 167; go_must (refine (round_no n c t HC.out base _).mono ?_); rintro e w1 ⟨rfl, hE1⟩)
    | ((guard_target =~ wpList _ _ _ (Oper.mk none (Op.store _ (Operand.tmp 10) (Operand.tmp 19)) _ _ _ _ :: _) _ _); go_must (refine storeBox rfl 208 (.tmp 10) (.tmp 19) rfl (w1.heap.size) (ringA 0 0 0) _ _ (by rfl) (by rfl) (BoxAt.made w1 _ _) (by rw [ringA_size]; kernel_rfl) (by rw [ringA_size]; rfl) (ringA_one _ _ _) ?_); intro w2 d2 g2; have hX1 := hE0.trans hE1; have hY2 : Ext w1 w2 := ((Ext.refl w1).alloc _).grown g2 (fun q hq => by cases hq; exact Nat.le_refl _); have hX2 := hX1.trans hY2; have b2 := b0.ext (hE1.trans hY2); have x0 : w2.cell? ⟨w.heap.size, 0, none⟩ = some (.int .i64 n) := b2.cell 0; have x1 : w2.cell? ⟨w.heap.size, 1, none⟩ = some (.int .i64 c) := b2.cell 1; have x2 : w2.cell? ⟨w.heap.size, 2, none⟩ = some (.int .i64 t) := b2.cell 2)
    | ((guard_target =~ wpList _ _ _ (Oper.mk none (Op.store _ (Operand.tmp 12) (Operand.tmp 25)) _ _ _ _ :: _) _ _); go_must (refine storeBox rfl 208 (.tmp 12) (.tmp 25) rfl (w3.heap.size) (ringA 0 0 0) _ _ (by rfl) (by rfl) (BoxAt.made w3 _ _) (by rw [ringA_size]; kernel_rfl) (by rw [ringA_size]; rfl) (ringA_one _ _ _) ?_); intro w4 d4 g4; have hY4 : Ext w3 w4 := ((Ext.refl w3).alloc _).grown g4 (fun q hq => by cases hq; exact Nat.le_refl _); have hX4 := hX2.trans (hE3.trans hY4)))
  go_loop [28] (fun i => i = .int .i64 0) (fun _ => 0)
  case atStart => rfl
  case round =>
    subst hrel
    go_wp2
    go_ret2
    exact ⟨⟨_, rfl⟩, hX4⟩
theorem owns_no (n c t : Int) (hc : confB n c t = false) (key : ByteArray) (x : Int) (w : World) :
    Calls Tryd.prog 133 #[.agg #[.int .i64 n, .int .i64 c, .int .i64 t], .string key, .int .i64 x] w fun e w' => e = .returned (.bool false) ∧ Ext w w' := by
  have b0 := BoxAt.made w #[.int .i64 n, .int .i64 c, .int .i64 t] 67
  have hE0 := (Ext.refl w).alloc (.cells #[.int .i64 n, .int .i64 c, .int .i64 t] 67)
  have x0 : (w.alloc (.cells #[.int .i64 n, .int .i64 c, .int .i64 t] 67)).cell? ⟨w.heap.size, 0, none⟩ = some (.int .i64 n) := b0.cell 0
  have x1 : (w.alloc (.cells #[.int .i64 n, .int .i64 c, .int .i64 t] 67)).cell? ⟨w.heap.size, 1, none⟩ = some (.int .i64 c) := b0.cell 1
  have x2 : (w.alloc (.cells #[.int .i64 n, .int .i64 c, .int .i64 t] 67)).cell? ⟨w.heap.size, 2, none⟩ = some (.int .i64 t) := b0.cell 2
  have HC := Lib.hid hc
  clear hc
  go_enter Tryd.func133, Tryd.ntmps133
  go_wp2_with (go_at_call 158; go_must (refine (pair_no n c t HC.out key key x _).mono ?_); rintro e w1 ⟨v, rfl, hE1⟩)
  go_ret
  exact ⟨rfl, hE0.trans hE1⟩
theorem both_no (n c t : Int) (hc : confB n c t = false) (key : ByteArray) (x y : Int) (w : World) :
    Calls Tryd.prog 97 #[.agg #[.int .i64 n, .int .i64 c, .int .i64 t], .string key, .int .i64 x, .int .i64 y] w fun e w' => e = .returned (.bool false) ∧ Ext w w' := by
  have b0 := BoxAt.made w #[.int .i64 n, .int .i64 c, .int .i64 t] 67
  have hE0 := (Ext.refl w).alloc (.cells #[.int .i64 n, .int .i64 c, .int .i64 t] 67)
  have x0 : (w.alloc (.cells #[.int .i64 n, .int .i64 c, .int .i64 t] 67)).cell? ⟨w.heap.size, 0, none⟩ = some (.int .i64 n) := b0.cell 0
  have x1 : (w.alloc (.cells #[.int .i64 n, .int .i64 c, .int .i64 t] 67)).cell? ⟨w.heap.size, 1, none⟩ = some (.int .i64 c) := b0.cell 1
  have x2 : (w.alloc (.cells #[.int .i64 n, .int .i64 c, .int .i64 t] 67)).cell? ⟨w.heap.size, 2, none⟩ = some (.int .i64 t) := b0.cell 2
  have HC := Lib.hid hc
  clear hc
  go_enter Tryd.func97, Tryd.ntmps97
  go_wp2_with (go_at_call 133; go_must (refine (owns_no n c t HC.out key x _).mono ?_); rintro e w1 ⟨rfl, hE1⟩)
  go_ret
  exact ⟨rfl, hE0.trans hE1⟩
theorem owners20_no (n c t : Int) (hc : confB n c t = false) (key : ByteArray) (w : World) :
    Calls Tryd.prog 138 #[.agg #[.int .i64 n, .int .i64 c, .int .i64 t], .string key] w fun e w' => e = .returned (.slice none 0 0) ∧ Ext w w' := by
  have b0 := BoxAt.made w #[.int .i64 n, .int .i64 c, .int .i64 t] 67
  have hE0 := (Ext.refl w).alloc (.cells #[.int .i64 n, .int .i64 c, .int .i64 t] 67)
  have x0 : (w.alloc (.cells #[.int .i64 n, .int .i64 c, .int .i64 t] 67)).cell? ⟨w.heap.size, 0, none⟩ = some (.int .i64 n) := b0.cell 0
  have x1 : (w.alloc (.cells #[.int .i64 n, .int .i64 c, .int .i64 t] 67)).cell? ⟨w.heap.size, 1, none⟩ = some (.int .i64 c) := b0.cell 1
  have x2 : (w.alloc (.cells #[.int .i64 n, .int .i64 c, .int .i64 t] 67)).cell? ⟨w.heap.size, 2, none⟩ = some (.int .i64 t) := b0.cell 2
  have HC := Lib.hid hc
  clear hc
  go_enter Tryd.func138, Tryd.ntmps138
  go_wp2_with (go_at_call 103; go_must (refine (rcheck20_any n c t _).mono ?_); rintro e w1 ⟨rfl, hE1⟩; rw [HC.out])
  go_ret
  exact ⟨rfl, hE0.trans hE1⟩
theorem at20_no (n c t : Int) (hc : confB n c t = false) (key : ByteArray) (x : Int) (w : World) :
    Calls Tryd.prog 107 #[.agg #[.int .i64 n, .int .i64 c, .int .i64 t], .string key, .int .i64 x] w fun e w' => e = .returned (.int .i64 (-1)) ∧ Ext w w' := by
  have b0 := BoxAt.made w #[.int .i64 n, .int .i64 c, .int .i64 t] 67
  have hE0 := (Ext.refl w).alloc (.cells #[.int .i64 n, .int .i64 c, .int .i64 t] 67)
  have x0 : (w.alloc (.cells #[.int .i64 n, .int .i64 c, .int .i64 t] 67)).cell? ⟨w.heap.size, 0, none⟩ = some (.int .i64 n) := b0.cell 0
  have x1 : (w.alloc (.cells #[.int .i64 n, .int .i64 c, .int .i64 t] 67)).cell? ⟨w.heap.size, 1, none⟩ = some (.int .i64 c) := b0.cell 1
  have x2 : (w.alloc (.cells #[.int .i64 n, .int .i64 c, .int .i64 t] 67)).cell? ⟨w.heap.size, 2, none⟩ = some (.int .i64 t) := b0.cell 2
  have HC := Lib.hid hc
  clear hc
  go_enter Tryd.func107, Tryd.ntmps107
  go_wp2_with (go_at_call 138; go_must (refine (owners20_no n c t HC.out key _).mono ?_); rintro e w1 ⟨rfl, hE1⟩)
  go_loop [8] (fun i => i = .int .i64 0) (fun _ => 0)
  case atStart => rfl
  case round =>
    subst hrel
    go_wp2
    go_ret
    exact ⟨rfl, hE0.trans hE1⟩
theorem owns20_no (n c t : Int) (hc : confB n c t = false) (key : ByteArray) (x : Int) (w : World) :
    Calls Tryd.prog 48 #[.agg #[.int .i64 n, .int .i64 c, .int .i64 t], .string key, .int .i64 x] w fun e w' => e = .returned (.bool false) ∧ Ext w w' := by
  have b0 := BoxAt.made w #[.int .i64 n, .int .i64 c, .int .i64 t] 67
  have hE0 := (Ext.refl w).alloc (.cells #[.int .i64 n, .int .i64 c, .int .i64 t] 67)
  have x0 : (w.alloc (.cells #[.int .i64 n, .int .i64 c, .int .i64 t] 67)).cell? ⟨w.heap.size, 0, none⟩ = some (.int .i64 n) := b0.cell 0
  have x1 : (w.alloc (.cells #[.int .i64 n, .int .i64 c, .int .i64 t] 67)).cell? ⟨w.heap.size, 1, none⟩ = some (.int .i64 c) := b0.cell 1
  have x2 : (w.alloc (.cells #[.int .i64 n, .int .i64 c, .int .i64 t] 67)).cell? ⟨w.heap.size, 2, none⟩ = some (.int .i64 t) := b0.cell 2
  have HC := Lib.hid hc
  clear hc
  go_enter Tryd.func48, Tryd.ntmps48
  go_wp2_with (go_at_call 107; go_must (refine (at20_no n c t HC.out key x _).mono ?_); rintro e w1 ⟨rfl, hE1⟩)
  go_ret
  exact ⟨rfl, hE0.trans hE1⟩
theorem both23_no (n c t : Int) (hc : confB n c t = false) (key : ByteArray) (x y : Int) (w : World) :
    Calls Tryd.prog 99 #[.agg #[.int .i64 n, .int .i64 c, .int .i64 t], .string key, .int .i64 x, .int .i64 y] w fun e w' => e = .returned (.bool false) ∧ Ext w w' := by
  have b0 := BoxAt.made w #[.int .i64 n, .int .i64 c, .int .i64 t] 67
  have hE0 := (Ext.refl w).alloc (.cells #[.int .i64 n, .int .i64 c, .int .i64 t] 67)
  have x0 : (w.alloc (.cells #[.int .i64 n, .int .i64 c, .int .i64 t] 67)).cell? ⟨w.heap.size, 0, none⟩ = some (.int .i64 n) := b0.cell 0
  have x1 : (w.alloc (.cells #[.int .i64 n, .int .i64 c, .int .i64 t] 67)).cell? ⟨w.heap.size, 1, none⟩ = some (.int .i64 c) := b0.cell 1
  have x2 : (w.alloc (.cells #[.int .i64 n, .int .i64 c, .int .i64 t] 67)).cell? ⟨w.heap.size, 2, none⟩ = some (.int .i64 t) := b0.cell 2
  have HC := Lib.hid hc
  clear hc
  go_enter Tryd.func99, Tryd.ntmps99
  go_wp2_with (go_at_call 48; go_must (refine (owns20_no n c t HC.out key x _).mono ?_); rintro e w1 ⟨rfl, hE1⟩)
  go_ret
  exact ⟨rfl, hE0.trans hE1⟩

/-- Do both own the key? (Any configuration.) -/
def bothF (n c t x y : Int) (key : ByteArray) : Bool := confB n c t && (ownN n.toNat c.toNat (place1 key) x && ownN n.toNat c.toNat (place1 key) y)
theorem conf_nat {n c t : Int} (hc : confB n c t = true) : n = (n.toNat : Int) ∧ c = (c.toNat : Int) := by
  simp [confB] at hc
  omega
theorem both_any (n c t : Int) (key : ByteArray) (hs : key.size ≤ maxLen) (x y : Int) (w : World) :
    Calls Tryd.prog 97 #[.agg #[.int .i64 n, .int .i64 c, .int .i64 t], .string key, .int .i64 x, .int .i64 y] w fun e w' => e = .returned (.bool (bothF n c t x y key)) ∧ Ext w w' := by
  cases hc : confB n c t
  · refine (both_no n c t hc key x y w).mono fun e w' ⟨h1, h2⟩ => ⟨?_, h2⟩
    rw [h1]; unfold bothF; rw [hc]; rfl
  · obtain ⟨e1, e2⟩ := conf_nat hc
    have h := both_yes n.toNat c.toNat t (by rw [← e1, ← e2]; exact hc) key hs x y w
    rw [← e1, ← e2] at h
    refine h.mono fun e w' ⟨h1, h2⟩ => ⟨?_, h2⟩
    rw [h1]; unfold bothF; rw [hc]; rfl
theorem both23_any (n c t : Int) (key : ByteArray) (hs : key.size ≤ maxLen) (x y : Int) (w : World) :
    Calls Tryd.prog 99 #[.agg #[.int .i64 n, .int .i64 c, .int .i64 t], .string key, .int .i64 x, .int .i64 y] w fun e w' => e = .returned (.bool (bothF n c t x y key)) ∧ Ext w w' := by
  cases hc : confB n c t
  · refine (both23_no n c t hc key x y w).mono fun e w' ⟨h1, h2⟩ => ⟨?_, h2⟩
    rw [h1]; unfold bothF; rw [hc]; rfl
  · obtain ⟨e1, e2⟩ := conf_nat hc
    have h := both23_yes n.toNat c.toNat t (by rw [← e1, ← e2]; exact hc) key hs x y w
    rw [← e1, ← e2] at h
    refine h.mono fun e w' ⟨h1, h2⟩ => ⟨?_, h2⟩
    rw [h1]; unfold bothF; rw [hc]; rfl
end Go.Proofs.YtcmgeccgahakbaaDoor
