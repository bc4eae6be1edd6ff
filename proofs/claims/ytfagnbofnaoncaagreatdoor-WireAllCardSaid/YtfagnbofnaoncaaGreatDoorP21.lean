/- The reference of chapter 9: bytes (a partition's), Part. -/
import Derived.Test.YtfagnbofnaoncaaGreatDoorP20
import Derived.Test.YtfagnbofnaoncaaGreatDoorP14
import Derived.Test.YtfagnbofnaoncaaGreatDoorP10
set_option linter.unusedSimpArgs false
set_option linter.unusedVariables false
namespace Go.Proofs.YtfagnbofnaoncaaGreatDoor
open Go Go.RowKit
attribute [local go_sem] yields yUpon

theorem strcat (a b : ByteArray) (l m : List UInt8) (ha : a = str l) (hb : b = str m) : a ++ b = str (l ++ m) := by rw [ha, hb, str_app]

set_option maxRecDepth 100000 in
set_option maxHeartbeats 16000000 in
theorem r9_bytes (k : ByteArray) (g : Int) (u : Value) (ps : List (Ro × Value)) (hp : OkP k g (ps.map (·.1))) (w : World) (hin : RowsIn w u ps) :
    Calls Tryz.prog 92 #[.agg #[.string k, .int .i64 g, u]] w fun e w' => e = .returned (.string (str (wholeP k g (ps.map (·.1))))) ∧ Ext w w' := by
  have hE0 := (Ext.refl w).alloc (.cells #[.string k, .int .i64 g, u] 50)
  have hbx := BoxAt.made w #[.string k, .int .i64 g, u] 50
  have hcols := Lib.hid hin.cols
  obtain ⟨au, cu, rfl, hcu, hcum, hget⟩ := hin.get
  obtain ⟨k1, k2, k3, k4, k5⟩ := hp
  rw [List.length_map] at k4
  obtain ⟨T, hT⟩ : ∃ T, T = txT k := ⟨_, rfl⟩
  obtain ⟨G, hG⟩ : ∃ G, G = str (num g.toNat) := ⟨_, rfl⟩
  obtain ⟨R, hR⟩ : ∃ R, R = str (num ps.length) := ⟨_, rfl⟩
  have zT : T.size ≤ 1009 := by rw [hT]; have := txT_size k (by omega); omega
  have zG : G.size ≤ 9 := by rw [hG, str_size]; exact num_length (by omega)
  have zR : R.size ≤ 9 := by rw [hR, str_size]; exact num_length (by omega)
  have q1 : ¬ 9223372036854775807 < T.size + G.size := by omega
  have q2 : ¬ 9223372036854775807 < T.size + G.size + R.size := by omega
  obtain ⟨B3, hB3⟩ : ∃ B, B = num k.size ++ k.data.toList ++ num g.toNat ++ num ps.length := ⟨_, rfl⟩
  have m3 : B3.length ≤ 1027 := by
    have l1 := num_length (x := k.size) (by omega)
    have l2 := num_length (x := g.toNat) (by omega)
    have l3 := num_length (x := ps.length) (by omega)
    rw [hB3]; simp only [List.length_append, dat_size]; omega
  have HB3 : Hid (T ++ G ++ R = str B3) := Lib.hid (by rw [hT, hG, hR]; unfold txT; rw [str_app, str_app, hB3])
  have HW : Hid (wholeP k g (ps.map (·.1)) = B3 ++ (ps.map (·.1)).flatMap rowP) := Lib.hid (by rw [hB3]; unfold wholeP; rw [List.length_map])
  have HT := Lib.hid hT
  have HG0 := Lib.hid hG
  have HR := Lib.hid hR
  have HG := Lib.hid hget
  have HK := Lib.hid k5
  rw [HW.out]
  obtain ⟨n, hn⟩ : ∃ n, n = ps.length := ⟨_, rfl⟩
  rw [← hn] at hbx hE0 hcu k4 HR ⊢
  have HN := Lib.hid hn
  clear hT hG hR hget k5 hn hin hB3 zT zG zR
  go_enter Tryz.func92, Tryz.ntmps92
  go_wp2
  refine wp_region_tab 12 [(2, fun v _ => v = .string T), (5, fun v _ => v = .string G), (10, fun v _ => v = .string R)] (by kernel_rfl) (by kernel_rfl) (by kernel_rfl) ⟨stays_eq _, stays_eq _, stays_eq _, trivial⟩ ?_
  have c0 := held (show (w.alloc (.cells #[.string k, .int .i64 g, .slice au n cu] 50)).cell? ⟨w.heap.size, 0, none⟩ = some (.string k) from hbx.cell 0)
  have c1 := held (show (w.alloc (.cells #[.string k, .int .i64 g, .slice au n cu] 50)).cell? ⟨w.heap.size, 1, none⟩ = some (.int .i64 g) from hbx.cell 1)
  have c2 := held (show (w.alloc (.cells #[.string k, .int .i64 g, .slice au n cu] 50)).cell? ⟨w.heap.size, 2, none⟩ = some (.slice au n cu) from hbx.cell 2)
  refine rg_quiet rfl rfl rfl rfl ?_; intro K hK; go_big_quiet_op; go_big_quiet_on
  refine rg_quiet rfl rfl rfl rfl ?_; intro K hK; go_big_quiet_op; go_big_quiet_on
  refine rg_val [] rfl rfl rfl (by kernel_rfl) (fun w1 hE hf => ?_) ?_
  · go_simp
    exact ((HT.out ▸ r9_text k (by omega) _)).mono fun e w' ⟨he, hw⟩ => ⟨_, he, rg_done hE hw (rfl)⟩
  simp only [Act.put, List.setIfInBounds_toArray, List.set_cons_zero, List.set_cons_succ]
  refine rg_quiet rfl rfl rfl rfl ?_; intro K hK; go_big_quiet_op; go_big_quiet_on
  refine rg_quiet rfl rfl rfl rfl ?_; intro K hK; go_big_quiet_op; go_big_quiet_on
  refine rg_val [] rfl rfl rfl (by kernel_rfl) (fun w1 hE hf => ?_) ?_
  · go_simp
    exact ((HG0.out ▸ r9_num g (by omega) (by omega) _)).mono fun e w' ⟨he, hw⟩ => ⟨_, he, rg_done hE hw (rfl)⟩
  simp only [Act.put, List.setIfInBounds_toArray, List.set_cons_zero, List.set_cons_succ]
  refine rg_quiet rfl rfl rfl rfl ?_; intro K hK; go_big_quiet_op; go_big_quiet_on
  refine rg_quiet rfl rfl rfl rfl ?_; intro K hK; go_big_quiet_op; go_big_quiet_on
  refine rg_quiet rfl rfl rfl rfl ?_; intro K hK; go_big_quiet_op; go_big_quiet_on
  refine rg_quiet rfl rfl rfl rfl ?_; intro K hK; go_big_quiet_op; go_big_quiet_on
  refine rg_val [] rfl rfl rfl (by kernel_rfl) (fun w1 hE hf => ?_) ?_
  · go_simp
    exact ((HR.out ▸ r9_num (n : Int) (by omega) (by omega) _)).mono fun e w' ⟨he, hw⟩ => ⟨_, he, rg_done hE hw (rfl)⟩
  simp only [Act.put, List.setIfInBounds_toArray, List.set_cons_zero, List.set_cons_succ]
  refine rg_quiet rfl rfl rfl rfl ?_; intro K hK; go_big_quiet_op; go_big_quiet_on
  refine rel_tail rfl rfl fun w2 hE2 _ => ?_
  clear c0 c1 c2
  have hb2 := hbx.ext hE2
  have hEw := hE0.trans hE2
  have c2 : w2.cell? ⟨w.heap.size, 2, none⟩ = some (.slice au n cu) := hb2.cell 2
  go_wp2_with fail
  go_loopw [3, 4] (fun s i wr => ∃ (j : Nat) (S : ByteArray), j ≤ n ∧ i = .int .i64 (j : Int) ∧ s = .string S ∧ Ext w2 wr ∧ Hid (S = str (B3 ++ ((ps.map (·.1)).take j).flatMap rowP))) (fun _ i _ => n - (intOf i).toNat)
  case atStart => exact ⟨0, _, Nat.zero_le _, rfl, rfl, Ext.refl w2, Lib.hid (by rw [List.take_zero, List.flatMap_nil, List.append_nil]; exact HB3.out)⟩
  case round =>
    obtain ⟨j, S, hjn, rfl, rfl, hE, HS⟩ := hrel
    have hEa := hEw.trans hE
    have htl : (((ps.map (·.1)).take j).flatMap rowP).length ≤ 300000000 := by
      have h1 := flat_le (f := rowP) (n := 300000) (l := (ps.map (·.1)).take j) (fun c hc => rowP_le (HK.out c (List.mem_of_mem_take hc)))
      have h2 : ((ps.map (·.1)).take j).length ≤ 1000 := by rw [List.length_take, List.length_map]; have := HN.out; omega
      have := Nat.mul_le_mul_right 300000 h2
      omega
    have hSl : S.size ≤ 300001027 := by rw [HS.out, str_size, List.length_append]; omega
    have c2 : wr.cell? ⟨w.heap.size, 2, none⟩ = some (.slice au n cu) := (hb2.ext hE).cell 2
    clear htl
    by_cases hlt : j < n
    · have hkc : j < ps.length := by rw [← HN.out]; exact hlt
      obtain ⟨b, o, rfl, hco⟩ := HG.out j hkc
      have hok := HK.out _ (List.mem_map_of_mem (f := (·.1)) (List.getElem_mem hkc))
      have hcol := hcols.out _ (List.getElem_mem hkc)
      obtain ⟨M, hM⟩ : ∃ M, M = ps[j] := ⟨_, rfl⟩
      rw [← hM] at hco hok hcol
      have HTK := Lib.hid (flat_take (f := rowP) (show (ps.map (·.1)).drop j = M.1 :: (ps.map (·.1)).drop (j + 1) by rw [hM, ← List.map_drop, List.drop_eq_getElem_cons hkc, List.map_cons, List.map_drop]))
      clear hM
      obtain ⟨r, mu⟩ := M
      simp only at hco hok hcol HTK
      have hcolw := hcol
      obtain ⟨ac, cc, rfl, hcc, hccm, hcg⟩ := hcol.get
      have HCG := Lib.hid hcg
      replace hco := hco.ext hEa
      obtain ⟨g0, g1, g2, g3, g4, g5, g6, g7⟩ := hco
      obtain ⟨o1, o2, o3, o4, o5, o6, o7, o8⟩ := hok
      have HO := Lib.hid o8
      obtain ⟨key, live, gone, shade, cols⟩ := r
      obtain ⟨val, dead, at_, fin⟩ := live
      simp only at o1 o2 o3 o4 o5 o6 o7 HO g0 g1 g2 g3 g4 g5 g6 g7 hcc HCG HTK
      obtain ⟨T1, hT1⟩ : ∃ T, T = txT key := ⟨_, rfl⟩
      obtain ⟨C1, hC1⟩ : ∃ T, T = str (cellP ⟨val, dead, at_, fin⟩) := ⟨_, rfl⟩
      obtain ⟨G1, hG1⟩ : ∃ T, T = str (num gone.toNat) := ⟨_, rfl⟩
      obtain ⟨D1, hD1⟩ : ∃ T, T = str (num shade.toNat) := ⟨_, rfl⟩
      obtain ⟨K1, hK1⟩ : ∃ T, T = str (num cols.length) := ⟨_, rfl⟩
      have zT : T1.size ≤ 1009 := by rw [hT1]; have := txT_size key (by omega); omega
      have zC : C1.size ≤ 1028 := by rw [hC1, str_size]; exact cellP_le o2
      have zG : G1.size ≤ 9 := by rw [hG1, str_size]; exact num_length (by omega)
      have zD : D1.size ≤ 9 := by rw [hD1, str_size]; exact num_length (by omega)
      have zK : K1.size ≤ 9 := by rw [hK1, str_size]; exact num_length (by omega)
      have q1 : ¬ 9223372036854775807 < S.size + T1.size := by omega
      have q2 : ¬ 9223372036854775807 < S.size + T1.size + C1.size := by omega
      have q3 : ¬ 9223372036854775807 < S.size + T1.size + C1.size + G1.size := by omega
      have q4 : ¬ 9223372036854775807 < S.size + T1.size + C1.size + G1.size + D1.size := by omega
      have q5 : ¬ 9223372036854775807 < S.size + T1.size + C1.size + G1.size + D1.size + K1.size := by omega
      obtain ⟨S1, hS1⟩ : ∃ X, X = S ++ T1 ++ C1 ++ G1 ++ D1 ++ K1 := ⟨_, rfl⟩
      have zS1 : S1.size ≤ 300003100 := by rw [hS1]; simp only [ByteArray.size_append]; omega
      have HS1 := Lib.hid hS1
      obtain ⟨Y, hY⟩ : ∃ Y, Y = B3 ++ ((ps.map (·.1)).take j).flatMap rowP := ⟨_, rfl⟩
      have HSY : Hid (S1 = str (Y ++ (num key.size ++ key.data.toList ++ cellP ⟨val, dead, at_, fin⟩ ++ num gone.toNat ++ num shade.toNat ++ num cols.length))) := Lib.hid (by
        rw [hS1, HS.out, hT1, hC1, hG1, hD1, hK1, hY]
        unfold txT
        simp only [str_app, List.append_assoc])
      have HR1 : Hid (B3 ++ ((ps.map (·.1)).take (j + 1)).flatMap rowP = Y ++ (num key.size ++ key.data.toList ++ cellP ⟨val, dead, at_, fin⟩ ++ num gone.toNat ++ num shade.toNat ++ num cols.length) ++ cols.flatMap colP) := Lib.hid (by
        rw [HTK.out, hY]
        unfold rowP
        simp only [List.append_assoc])
      have HT1 := Lib.hid hT1
      have HC1 := Lib.hid hC1
      have HG1 := Lib.hid hG1
      have HD1 := Lib.hid hD1
      have HK1 := Lib.hid hK1
      obtain ⟨m, hm⟩ : ∃ m, m = cols.length := ⟨_, rfl⟩
      rw [← hm] at hcc o7 HK1 g7
      have HM := Lib.hid hm
      have HOC := Lib.hid o2
      clear hT1 hC1 hG1 hD1 hK1 hS1 hY o8 hcg zT zC zG zD zK hm o2 hcol hcolw HTK
      go_wp2_with ((guard_target =~ wpList _ _ _ (Oper.mk none (Op.store _ (Operand.tmp 5) (Operand.tmp 30)) _ _ _ _ :: _) _ _); go_must (refine storeBox rfl 58 (.tmp 5) (.tmp 30) rfl (wr.heap.size) _ _ _ (by rfl) (by rfl) ((BoxAt.made wr (ro8 ⟨⟨#[]⟩, zeroCl, 0, 0, []⟩ (.slice none 0 0)) 58)) (by kernel_rfl) (by rfl) (by simp [Value.oneCell']) ?_); intro w3 d3 g3')
      have hE3 : Ext wr w3 := (((Ext.refl wr).alloc _).grown g3' (fun q hq => by cases hq; exact Nat.le_refl _))
      simp only [Act.put]
      refine wp_region_tab 22 [(3, fun v _ => v = .string T1), (7, fun v _ => v = .string C1), (11, fun v _ => v = .string G1), (15, fun v _ => v = .string D1), (20, fun v _ => v = .string K1)] (by kernel_rfl) (by kernel_rfl) (by kernel_rfl) ⟨stays_eq _, stays_eq _, stays_eq _, stays_eq _, stays_eq _, trivial⟩ ?_
      have e0 := held (show w3.cell? ⟨wr.heap.size, 0, none⟩ = some (.string key) from d3.cell 0)
      have e1 := held (show w3.cell? ⟨wr.heap.size, 1, none⟩ = some (.string val) from d3.cell 1)
      have e2 := held (show w3.cell? ⟨wr.heap.size, 2, none⟩ = some (.bool dead) from d3.cell 2)
      have e3 := held (show w3.cell? ⟨wr.heap.size, 3, none⟩ = some (.int .i64 at_) from d3.cell 3)
      have e4 := held (show w3.cell? ⟨wr.heap.size, 4, none⟩ = some (.int .i64 fin) from d3.cell 4)
      have e5 := held (show w3.cell? ⟨wr.heap.size, 5, none⟩ = some (.int .i64 gone) from d3.cell 5)
      have e6 := held (show w3.cell? ⟨wr.heap.size, 6, none⟩ = some (.int .i64 shade) from d3.cell 6)
      have e7 := held (show w3.cell? ⟨wr.heap.size, 7, none⟩ = some (.slice ac m cc) from d3.cell 7)
      refine rg_quiet rfl rfl rfl rfl ?_; intro K hK; go_big_quiet_op; go_big_quiet_on
      refine rg_quiet rfl rfl rfl rfl ?_; intro K hK; go_big_quiet_op; go_big_quiet_on
      refine rg_quiet rfl rfl rfl rfl ?_; intro K hK; go_big_quiet_op; go_big_quiet_on
      refine rg_val [] rfl rfl rfl (by kernel_rfl) (fun w1 hE hf => ?_) ?_
      · go_simp
        exact ((HT1.out ▸ r9_text key (by omega) _)).mono fun e w' ⟨he, hw⟩ => ⟨_, he, rg_done hE hw (rfl)⟩
      simp only [Act.put, List.setIfInBounds_toArray, List.set_cons_zero, List.set_cons_succ]
      refine rg_quiet rfl rfl rfl rfl ?_; intro K hK; go_big_quiet_op; go_big_quiet_on
      refine rg_quiet rfl rfl rfl rfl ?_; intro K hK; go_big_quiet_op; go_big_quiet_on
      refine rg_quiet rfl rfl rfl rfl ?_; intro K hK; go_big_quiet_op; go_big_quiet_on
      refine rg_val [] rfl rfl rfl (by kernel_rfl) (fun w1 hE hf => ?_) ?_
      · go_simp
        exact ((HC1.out ▸ r9_cell ⟨val, dead, at_, fin⟩ HOC.out _)).mono fun e w' ⟨he, hw⟩ => ⟨_, he, rg_done hE hw (rfl)⟩
      simp only [Act.put, List.setIfInBounds_toArray, List.set_cons_zero, List.set_cons_succ]
      refine rg_quiet rfl rfl rfl rfl ?_; intro K hK; go_big_quiet_op; go_big_quiet_on
      refine rg_quiet rfl rfl rfl rfl ?_; intro K hK; go_big_quiet_op; go_big_quiet_on
      refine rg_quiet rfl rfl rfl rfl ?_; intro K hK; go_big_quiet_op; go_big_quiet_on
      refine rg_val [] rfl rfl rfl (by kernel_rfl) (fun w1 hE hf => ?_) ?_
      · go_simp
        exact ((HG1.out ▸ r9_num gone (by omega) (by omega) _)).mono fun e w' ⟨he, hw⟩ => ⟨_, he, rg_done hE hw (rfl)⟩
      simp only [Act.put, List.setIfInBounds_toArray, List.set_cons_zero, List.set_cons_succ]
      refine rg_quiet rfl rfl rfl rfl ?_; intro K hK; go_big_quiet_op; go_big_quiet_on
      refine rg_quiet rfl rfl rfl rfl ?_; intro K hK; go_big_quiet_op; go_big_quiet_on
      refine rg_quiet rfl rfl rfl rfl ?_; intro K hK; go_big_quiet_op; go_big_quiet_on
      refine rg_val [] rfl rfl rfl (by kernel_rfl) (fun w1 hE hf => ?_) ?_
      · go_simp
        exact ((HD1.out ▸ r9_num shade (by omega) (by omega) _)).mono fun e w' ⟨he, hw⟩ => ⟨_, he, rg_done hE hw (rfl)⟩
      simp only [Act.put, List.setIfInBounds_toArray, List.set_cons_zero, List.set_cons_succ]
      refine rg_quiet rfl rfl rfl rfl ?_; intro K hK; go_big_quiet_op; go_big_quiet_on
      refine rg_quiet rfl rfl rfl rfl ?_; intro K hK; go_big_quiet_op; go_big_quiet_on
      refine rg_quiet rfl rfl rfl rfl ?_; intro K hK; go_big_quiet_op; go_big_quiet_on
      refine rg_quiet rfl rfl rfl rfl ?_; intro K hK; go_big_quiet_op; go_big_quiet_on
      refine rg_val [] rfl rfl rfl (by kernel_rfl) (fun w1 hE hf => ?_) ?_
      · go_simp
        exact ((HK1.out ▸ r9_num (m : Int) (by omega) (by omega) _)).mono fun e w' ⟨he, hw⟩ => ⟨_, he, rg_done hE hw (rfl)⟩
      simp only [Act.put, List.setIfInBounds_toArray, List.set_cons_zero, List.set_cons_succ]
      refine rg_quiet rfl rfl rfl rfl ?_; intro K hK; go_big_quiet_op; go_big_quiet_on
      refine rel_tail rfl rfl fun w4 hE4 _ => ?_
      clear e0 e1 e2 e3 e4 e5 e6 e7 q1 q2 q3 q4 q5
      have d4 := d3.ext hE4
      have hE34 := hE3.trans hE4
      have hEa4 := hEa.trans hE34
      go_wp2_with fail
      rw [← HS1.out]
      obtain ⟨HD, hHD⟩ : ∃ X, X = num key.size ++ key.data.toList ++ cellP ⟨val, dead, at_, fin⟩ ++ num gone.toNat ++ num shade.toNat ++ num cols.length := ⟨_, rfl⟩
      rw [← hHD] at HSY HR1
      clear hHD
      obtain ⟨wo, rfl⟩ : ∃ w', w' = wr := ⟨_, rfl⟩
      go_loopw [3, 6] (fun s i wr => ∃ (q : Nat) (Z : ByteArray), q ≤ m ∧ i = .int .i64 (q : Int) ∧ s = .string Z ∧ Ext w4 wr ∧ Z.size ≤ 300003100 + q * 2037 ∧ Hid (Z = str (Y ++ HD ++ (cols.take q).flatMap colP))) (fun _ i _ => m - (intOf i).toNat)
      case atStart => exact ⟨0, _, Nat.zero_le _, rfl, rfl, Ext.refl w4, by omega, Lib.hid (by rw [List.take_zero, List.flatMap_nil, List.append_nil]; exact HSY.out)⟩
      case round =>
        obtain ⟨q, Z, hqm, rfl, rfl, hE5, hZ, HZ⟩ := hrel
        have d5 := d4.ext hE5
        have e7 : wr.cell? ⟨wo.heap.size, 7, none⟩ = some (.slice ac m cc) := d5.cell 7
        by_cases hlq : q < m
        · have hqc : q < cols.length := by rw [← HM.out]; exact hlq
          obtain ⟨bc, oc, rfl, hcc5⟩ := HCG.out q hqc
          have hoc := HO.out _ (List.getElem_mem hqc)
          obtain ⟨c, hc⟩ : ∃ c, c = cols[q] := ⟨_, rfl⟩
          rw [← hc] at hcc5 hoc
          have HTQ := Lib.hid (flat_take (f := colP) (show cols.drop q = c :: cols.drop (q + 1) by rw [hc]; exact List.drop_eq_getElem_cons hqc))
          clear hc
          replace hcc5 := hcc5.ext ((hEa.trans hE34).trans hE5)
          obtain ⟨y0, y1, y2, y3, y4⟩ := hcc5
          obtain ⟨p1, p2⟩ := hoc
          obtain ⟨name, mval, mdead, mat, mfin⟩ := c
          simp only at y0 y1 y2 y3 y4 p1 p2
          have HP2 := Lib.hid p2
          obtain ⟨T2, hT2⟩ : ∃ T, T = txT name := ⟨_, rfl⟩
          obtain ⟨C2, hC2⟩ : ∃ T, T = str (cellP ⟨mval, mdead, mat, mfin⟩) := ⟨_, rfl⟩
          have zT : T2.size ≤ 1009 := by rw [hT2]; have := txT_size name (by omega); omega
          have zC : C2.size ≤ 1028 := by rw [hC2, str_size]; exact cellP_le p2
          have q1 : ¬ 9223372036854775807 < Z.size + T2.size := by omega
          have q2 : ¬ 9223372036854775807 < Z.size + T2.size + C2.size := by omega
          have t1 : decide ((q : Int) < (m : Int)) = true := by simp; omega
          have HT2 := Lib.hid hT2
          have HC2 := Lib.hid hC2
          clear hT2 hC2 p2
          replace y0 := held y0
          replace y1 := held y1
          replace y2 := held y2
          replace y3 := held y3
          replace y4 := held y4
          have e7' := held e7
          go_wp2_with fail
          refine wp_region_tab 17 [(7, fun v _ => v = .string T2), (15, fun v _ => v = .string C2)] (by kernel_rfl) (by kernel_rfl) (by kernel_rfl) ⟨stays_eq _, stays_eq _, trivial⟩ ?_
          refine rg_quiet rfl rfl rfl rfl ?_; intro K hK; go_big_quiet_op; go_big_quiet_on
          refine rg_quiet rfl rfl rfl rfl ?_; intro K hK; go_big_quiet_op; go_big_quiet_on
          refine rg_quiet rfl rfl rfl rfl ?_; intro K hK; go_big_quiet_op; go_big_quiet_on
          refine rg_quiet rfl rfl rfl rfl ?_; intro K hK; go_big_quiet_op; go_big_quiet_on
          refine rg_quiet rfl rfl rfl rfl ?_; intro K hK; go_big_quiet_op; go_big_quiet_on
          refine rg_quiet rfl rfl rfl rfl ?_; intro K hK; go_big_quiet_op; go_big_quiet_on
          refine rg_quiet rfl rfl rfl rfl ?_; intro K hK; go_big_quiet_op; go_big_quiet_on
          refine rg_val [] rfl rfl rfl (by kernel_rfl) (fun w1 hE hf => ?_) ?_
          · go_simp
            exact ((HT2.out ▸ r9_text name (by omega) _)).mono fun e w' ⟨he, hw⟩ => ⟨_, he, rg_done hE hw (rfl)⟩
          simp only [Act.put, List.setIfInBounds_toArray, List.set_cons_zero, List.set_cons_succ]
          refine rg_quiet rfl rfl rfl rfl ?_; intro K hK; go_big_quiet_op; go_big_quiet_on
          refine rg_quiet rfl rfl rfl rfl ?_; intro K hK; go_big_quiet_op; go_big_quiet_on
          refine rg_quiet rfl rfl rfl rfl ?_; intro K hK; go_big_quiet_op; go_big_quiet_on
          refine rg_quiet rfl rfl rfl rfl ?_; intro K hK; go_big_quiet_op; go_big_quiet_on
          refine rg_quiet rfl rfl rfl rfl ?_; intro K hK; go_big_quiet_op; go_big_quiet_on
          refine rg_quiet rfl rfl rfl rfl ?_; intro K hK; go_big_quiet_op; go_big_quiet_on
          refine rg_quiet rfl rfl rfl rfl ?_; intro K hK; go_big_quiet_op; go_big_quiet_on
          refine rg_val [] rfl rfl rfl (by kernel_rfl) (fun w1 hE hf => ?_) ?_
          · go_simp
            exact ((HC2.out ▸ r9_cell ⟨mval, mdead, mat, mfin⟩ HP2.out _)).mono fun e w' ⟨he, hw⟩ => ⟨_, he, rg_done hE hw (rfl)⟩
          simp only [Act.put, List.setIfInBounds_toArray, List.set_cons_zero, List.set_cons_succ]
          refine rg_quiet rfl rfl rfl rfl ?_; intro K hK; go_big_quiet_op; go_big_quiet_on
          refine rel_tail rfl rfl fun w6 hE6 _ => ?_
          clear y0 y1 y2 y3 y4 e7'
          go_wp2_with fail
          go_roundw
          case rel => exact ⟨q + 1, _, hlq, by go_num, rfl, hE5.trans hE6, by simp only [ByteArray.size_append]; omega, Lib.hid (by
            rw [HTQ.out, HZ.out, HT2.out, HC2.out]
            unfold colP txT
            simp only [str_app, List.append_assoc])⟩
          case measure => simp [intOf]; omega
        · obtain rfl : q = m := by omega
          have HF : Hid (Z = str (B3 ++ ((ps.map (·.1)).take (j + 1)).flatMap rowP)) := Lib.hid (by rw [HR1.out, HZ.out, List.take_of_length_le (by rw [HM.out]; exact Nat.le_refl _)])
          go_wp2_with fail
          go_roundw
          case rel => exact ⟨j + 1, _, by omega, by go_num, rfl, (hE.trans hE34).trans hE5, HF⟩
          case measure => simp [intOf]; omega
    · obtain rfl : j = n := by omega
      have HF : Hid (S = str (B3 ++ (ps.map (·.1)).flatMap rowP)) := Lib.hid (by rw [HS.out, List.take_of_length_le (by rw [List.length_map, HN.out]; exact Nat.le_refl _)])
      go_wp2_with fail
      go_ret
      exact ⟨ret_str HF.out, hEa⟩
end Go.Proofs.YtfagnbofnaoncaaGreatDoor

/- The reference of chapter 9: Muts, Batch (the writers). (what a smaller cut has) -/
namespace Go.Proofs.YtfagnbofnaoncaaGreatDoor
open Go Go.RowKit
attribute [local go_sem] yields yUpon

set_option maxRecDepth 100000 in
set_option maxHeartbeats 8000000 in
theorem r9_muts (vm : Value) (M : List Mt) (w : World) (hM : MtsIn w vm M) (h64 : M.length ≤ 64) (hMo : ∀ m ∈ M, okMt m = true) :
    Calls Tryz.prog 34 #[vm] w fun e w' => e = .returned (.string (str (num M.length ++ M.flatMap mutP))) ∧ Ext w w' := by
  have HROW := Lib.hid hM.rows
  obtain ⟨am, cm, rfl, hcm, hcmm, hgm⟩ := hM.get
  have HGM := Lib.hid hgm
  have HMB := Lib.hid hMo
  have HMT := Lib.hid (fun k (hk : k ≤ 64) => flat_takeLe (f := mutP) (l := M) (k := k) (m := 64) (fun m hm => mutP_le (hMo m hm)) hk)
  clear hgm hMo hM
  obtain ⟨mn, hmn⟩ : ∃ n, n = M.length := ⟨_, rfl⟩
  rw [← hmn] at hcm h64 ⊢
  have HMN := Lib.hid hmn
  clear hmn
  obtain ⟨B0, hB0⟩ : ∃ B, B = num mn := ⟨_, rfl⟩
  rw [← hB0]
  have hB0l : B0.length ≤ 9 := by rw [hB0]; exact num_length (by omega)
  have H0 := Lib.hid hB0
  clear hB0
  go_enter Tryz.func34, Tryz.ntmps34
  go_wp2_with (go_at_call 33; go_must (refine (r9_num (mn : Int) (by omega) (by omega) _).mono ?_); rintro e w2 ⟨rfl, hE2⟩; rw [Int.toNat_natCast, ← H0.out])
  go_loopw [3, 4] (fun s i wr => ∃ (k : Nat) (S : ByteArray), k ≤ mn ∧ i = .int .i64 (k : Int) ∧ s = .string S ∧ Ext w wr ∧ Hid (S = str (B0 ++ (M.take k).flatMap mutP))) (fun _ i _ => mn - (intOf i).toNat)
  case atStart => exact ⟨0, _, Nat.zero_le _, rfl, rfl, hE2, Lib.hid (by rw [List.take_zero, List.flatMap_nil, List.append_nil])⟩
  case round =>
    obtain ⟨k, S, hk, rfl, rfl, hE, HS⟩ := hrel
    have htl := HMT.out k (by omega)
    have hSl : S.size ≤ 122252809 := by rw [HS.out, str_size, List.length_append]; omega
    clear htl
    by_cases hlt : k < mn
    · have hkF : k < M.length := by rw [← HMN.out]; exact hlt
      obtain ⟨b, o, rfl, ⟨g0, g1, g2, g3⟩⟩ := HGM.out k hkF
      obtain ⟨ra, rc, hrv⟩ : ∃ a c, (M[k]).pa.rv = .slice a (M[k]).pa.ps.length c := let ⟨a, c, e, _⟩ := (HROW.out _ (List.getElem_mem hkF)).get; ⟨a, c, e⟩
      have hrw := HROW.out _ (List.getElem_mem hkF)
      rw [hrv] at g3 hrw
      replace g0 := hE.cell g0
      replace g1 := hE.cell g1
      replace g2 := hE.cell g2
      replace g3 := hE.cell g3
      have hok := HMB.out _ (List.getElem_mem hkF)
      unfold okMt at hok
      simp only [Bool.and_eq_true] at hok
      have HTK : Hid ((M.take (k + 1)).flatMap mutP = (M.take k).flatMap mutP ++ mutQ (M[k]).table (M[k]).pa.key (M[k]).pa.gone ((M[k]).pa.ps.map (·.1))) := Lib.hid (flat_take (f := mutP) (List.drop_eq_getElem_cons hkF))
      obtain ⟨t, ht⟩ : ∃ t, t = (M[k]).table := ⟨_, rfl⟩
      obtain ⟨ky, hky⟩ : ∃ t, t = (M[k]).pa.key := ⟨_, rfl⟩
      obtain ⟨gn, hgn⟩ : ∃ t, t = (M[k]).pa.gone := ⟨_, rfl⟩
      obtain ⟨ps, hps⟩ : ∃ t, t = (M[k]).pa.ps := ⟨_, rfl⟩
      rw [← ht] at g0 hok HTK
      rw [← hky] at g1 hok HTK
      rw [← hgn] at g2 hok HTK
      rw [← hps] at g3 hrw hok HTK
      obtain ⟨rn, hrn⟩ : ∃ n, n = ps.length := ⟨_, rfl⟩
      rw [← hrn] at g3 hrw
      have q1 := nameB_size hok.1
      have HOP := Lib.hid (ptB_ok hok.2)
      have hwl := wholeP_le8 hok.2
      clear ht hky hgn hps hrv hrn hok
      obtain ⟨Wh, hWh⟩ : ∃ L, L = str (wholeP ky gn (ps.map (·.1))) := ⟨_, rfl⟩
      obtain ⟨T1, hT1⟩ : ∃ T, T = txT t := ⟨_, rfl⟩
      obtain ⟨T2, hT2⟩ : ∃ T, T = txT Wh := ⟨_, rfl⟩
      have zW : Wh.size ≤ 1910000 := by rw [hWh, str_size]; exact hwl
      have z1 : T1.size ≤ 109 := by rw [hT1]; have := txT_size t (by omega); omega
      have z2 : T2.size ≤ 1910009 := by rw [hT2]; have := txT_size Wh (by omega); omega
      have p1 : ¬ 9223372036854775807 < S.size + T1.size := by omega
      have p2 : ¬ 9223372036854775807 < S.size + T1.size + T2.size := by omega
      have t1 : decide ((k : Int) < (mn : Int)) = true := by simp; omega
      have HW := Lib.hid hWh
      have HT1 := Lib.hid hT1
      have HT2 := Lib.hid hT2
      have HRW := Lib.hid hrw
      have hEr := hE
      clear hWh hT1 hT2 hwl hrw
      replace g0 := held g0
      replace g1 := held g1
      replace g2 := held g2
      replace g3 := held g3
      go_wp2_with fail
      refine wp_region_tab 16 [(6, fun v _ => v = .string T1), (13, fun v _ => v = .string Wh), (14, fun v _ => v = .string T2)] (by kernel_rfl) (by kernel_rfl) (by kernel_rfl) ⟨stays_eq _, stays_eq _, stays_eq _, trivial⟩ ?_
      refine rg_quiet rfl rfl rfl rfl ?_; intro K hK; go_big_quiet_op; go_big_quiet_on
      refine rg_quiet rfl rfl rfl rfl ?_; intro K hK; go_big_quiet_op; go_big_quiet_on
      refine rg_quiet rfl rfl rfl rfl ?_; intro K hK; go_big_quiet_op; go_big_quiet_on
      refine rg_quiet rfl rfl rfl rfl ?_; intro K hK; go_big_quiet_op; go_big_quiet_on
      refine rg_quiet rfl rfl rfl rfl ?_; intro K hK; go_big_quiet_op; go_big_quiet_on
      refine rg_quiet rfl rfl rfl rfl ?_; intro K hK; go_big_quiet_op; go_big_quiet_on
      refine rg_val [] rfl rfl rfl (by kernel_rfl) (fun w1 hE hf => ?_) ?_
      · go_simp
        exact ((HT1.out ▸ r9_text t (by omega) _)).mono fun e w' ⟨he, hw⟩ => ⟨_, he, rg_done hE hw (rfl)⟩
      simp only [Act.put, List.setIfInBounds_toArray, List.set_cons_zero, List.set_cons_succ]
      refine rg_quiet rfl rfl rfl rfl ?_; intro K hK; go_big_quiet_op; go_big_quiet_on
      refine rg_quiet rfl rfl rfl rfl ?_; intro K hK; go_big_quiet_op; go_big_quiet_on
      refine rg_quiet rfl rfl rfl rfl ?_; intro K hK; go_big_quiet_op; go_big_quiet_on
      refine rg_quiet rfl rfl rfl rfl ?_; intro K hK; go_big_quiet_op; go_big_quiet_on
      refine rg_quiet rfl rfl rfl rfl ?_; intro K hK; go_big_quiet_op; go_big_quiet_on
      refine rg_quiet rfl rfl rfl rfl ?_; intro K hK; go_big_quiet_op; go_big_quiet_on
      refine rg_val [] rfl rfl rfl (by kernel_rfl) (fun w1 hE hf => ?_) ?_
      · go_simp
        exact ((HW.out ▸ r9_bytes ky gn _ ps HOP.out _ (HRW.out.ext (hEr.trans hE)))).mono fun e w' ⟨he, hw⟩ => ⟨_, he, rg_done hE hw (rfl)⟩
      simp only [Act.put, List.setIfInBounds_toArray, List.set_cons_zero, List.set_cons_succ]
      refine rg_val [] rfl rfl rfl (by kernel_rfl) (fun w1 hE hf => ?_) ?_
      · go_simp
        exact ((HT2.out ▸ r9_text Wh (by omega) _)).mono fun e w' ⟨he, hw⟩ => ⟨_, he, rg_done hE hw (rfl)⟩
      simp only [Act.put, List.setIfInBounds_toArray, List.set_cons_zero, List.set_cons_succ]
      refine rg_quiet rfl rfl rfl rfl ?_; intro K hK; go_big_quiet_op; go_big_quiet_on
      refine rel_tail rfl rfl fun w6 hE6 _ => ?_
      clear g0 g1 g2 g3
      go_wp2_with fail
      go_roundw
      case rel => exact ⟨k + 1, _, hlt, by go_num, rfl, hE.trans hE6, Lib.hid (by
        rw [HTK.out, HS.out, HT1.out, HT2.out, HW.out]
        unfold mutQ txT
        simp only [str_app, List.append_assoc, str_size]
        rfl)⟩
      case measure => simp [intOf]; omega
    · obtain rfl : k = mn := by omega
      have HF : Hid (S = str (B0 ++ M.flatMap mutP)) := Lib.hid (by rw [HS.out, List.take_of_length_le (by rw [HMN.out]; exact Nat.le_refl _)])
      go_wp2_with fail
      go_ret
      exact ⟨ret_str HF.out, hE⟩
end Go.Proofs.YtfagnbofnaoncaaGreatDoor

/- The reference of chapter 9: CheckMuts of any bound, Muts of up to a hundred. -/
namespace Go.Proofs.YtfagnbofnaoncaaGreatDoor
open Go Go.RowKit
attribute [local go_sem] yields yUpon

set_option maxRecDepth 100000 in
set_option maxHeartbeats 8000000 in
theorem r9_checkmutsN (most : Int) (vm : Value) (M : List Mt) (w : World) (hM : MtsIn w vm M) (hMb : ∀ x ∈ M, x.table.size ≤ 1000000 ∧ ∀ p ∈ x.pa.ps, ∀ c ∈ p.1.cols, c.name.size ≤ 1000000) :
    Calls Tryz.prog 52 #[vm, .int .i64 most] w fun e w' => e = .returned (.bool (M.all okMt && decide ((M.length : Int) ≤ most))) ∧ Ext w w' := by
  obtain ⟨am, cm, rfl, hcm, hcmm, hgm⟩ := hM.get
  have HGM := Lib.hid hgm
  have HMB := Lib.hid hMb
  have HROW := Lib.hid hM.rows
  clear hgm hMb hM
  obtain ⟨mn, hmn⟩ : ∃ n, n = M.length := ⟨_, rfl⟩
  rw [← hmn] at hcm ⊢
  have HMN := Lib.hid hmn
  clear hmn
  obtain ⟨R, hR⟩ : ∃ R, R = (M.all okMt && decide ((mn : Int) ≤ most)) := ⟨_, rfl⟩
  rw [← hR]
  have HR := Lib.hid hR
  clear hR
  go_enter Tryz.func52, Tryz.ntmps52
  go_wp2
  go_loopw [5] (fun i wr => ∃ k : Nat, k ≤ mn ∧ i = .int .i64 (k : Int) ∧ Hid ((M.take k).all okMt = true) ∧ Ext w wr) (fun i _ => mn - (intOf i).toNat)
  case atStart => exact ⟨0, Nat.zero_le _, rfl, Lib.hid rfl, Ext.refl w⟩
  case round =>
    obtain ⟨k, hk, rfl, HP, hE⟩ := hrel
    by_cases hlt : k < mn
    · have hkF : k < M.length := by rw [← HMN.out]; exact hlt
      obtain ⟨b, o, rfl, ⟨g0, g1, g2, g3⟩⟩ := HGM.out k hkF
      obtain ⟨ra, rc, hrv⟩ : ∃ a c, (M[k]).pa.rv = .slice a (M[k]).pa.ps.length c := let ⟨a, c, e, _⟩ := (HROW.out _ (List.getElem_mem hkF)).get; ⟨a, c, e⟩
      have hrw := HROW.out _ (List.getElem_mem hkF)
      rw [hrv] at g3 hrw
      replace g0 := hE.cell g0
      replace g1 := hE.cell g1
      replace g2 := hE.cell g2
      replace g3 := hE.cell g3
      obtain ⟨q1, q2⟩ := HMB.out _ (List.getElem_mem hkF)
      have HP1 : Hid (okMt M[k] = true → (M.take (k + 1)).all okMt = true) := Lib.hid fun h => all_take hkF HP.out h
      have HP0 : Hid (okMt M[k] = false → R = false) := Lib.hid fun h => by rw [HR.out, all_no hkF h]; rfl
      have HOK : Hid (okMt M[k] = (nameB (M[k]).table && ptB (M[k]).pa.key (M[k]).pa.gone ((M[k]).pa.ps.map (·.1)))) := Lib.hid rfl
      obtain ⟨ok, hok⟩ : ∃ ok, ok = okMt M[k] := ⟨_, rfl⟩
      obtain ⟨t, ht⟩ : ∃ t, t = (M[k]).table := ⟨_, rfl⟩
      obtain ⟨ky, hky⟩ : ∃ t, t = (M[k]).pa.key := ⟨_, rfl⟩
      obtain ⟨gn, hgn⟩ : ∃ t, t = (M[k]).pa.gone := ⟨_, rfl⟩
      obtain ⟨ps, hps⟩ : ∃ t, t = (M[k]).pa.ps := ⟨_, rfl⟩
      rw [← hok] at HP1 HP0 HOK
      rw [← ht] at g0 q1 HOK
      rw [← hky] at g1 HOK
      rw [← hgn] at g2 HOK
      rw [← hps] at g3 hrw q2 HOK
      obtain ⟨rn, hrn⟩ : ∃ n, n = ps.length := ⟨_, rfl⟩
      rw [← hrn] at g3 hrw
      have HQ2 := Lib.hid q2
      clear hok ht hky hgn hps hrv hrn q2
      have t1 : decide ((k : Int) < (mn : Int)) = true := by simp; omega
      cases hn : nameB t
      · have HN := Lib.hid hn
        clear hn
        go_wp2_with (go_at_call 100; go_must (refine (rname_any t (by omega) _).mono ?_); rintro e w5 ⟨rfl, hE5⟩; rw [HN.out])
        go_ret
        exact ⟨by rw [HP0.out (by rw [HOK.out, HN.out]; rfl)]; rfl, hE.trans hE5⟩
      · have HN := Lib.hid hn
        clear hn
        cases hg : ptB ky gn (ps.map (·.1))
        all_goals
          have HG := Lib.hid hg
          clear hg
          go_wp2_with (first
            | (go_at_call 100; go_must (refine (rname_any t (by omega) _).mono ?_); rintro e w5 ⟨rfl, hE5⟩; rw [HN.out]; have z1 := hE5.cell g1; have z2 := hE5.cell g2; have z3 := hE5.cell g3)
            | (go_at_call 101; go_must (refine (check8_any ky gn _ ps _ (hrw.ext (hE.trans hE5)) HQ2.out).mono ?_); rintro e w6 ⟨rfl, hE6⟩; rw [HG.out]))
        · go_ret
          exact ⟨by rw [HP0.out (by rw [HOK.out, HN.out, HG.out]; rfl)]; rfl, (hE.trans hE5).trans hE6⟩
        · go_roundw
          case rel => exact ⟨k + 1, by omega, by go_num, Lib.hid (HP1.out (by rw [HOK.out, HN.out, HG.out]; rfl)), (hE.trans hE5).trans hE6⟩
          case measure => simp [intOf]; omega
    · obtain rfl : k = mn := by omega
      have HR3 : Hid (R = decide ((k : Int) ≤ most)) := Lib.hid (by
        have h1 := HP.out
        rw [HMN.out, List.take_length] at h1
        rw [HR.out, h1]; rfl)
      cases t2 : decide ((k : Int) ≤ most)
      · go_wp2_with fail
        go_ret
        exact ⟨by rw [HR3.out, t2]; rfl, hE⟩
      · go_wp2_with fail
        go_ret
        exact ⟨by rw [HR3.out, t2]; rfl, hE⟩
set_option maxRecDepth 100000 in
set_option maxHeartbeats 8000000 in
theorem r9_mutsC (vm : Value) (M : List Mt) (w : World) (hM : MtsIn w vm M) (h64 : M.length ≤ 100) (hMo : ∀ m ∈ M, okMt m = true) :
    Calls Tryz.prog 34 #[vm] w fun e w' => e = .returned (.string (str (num M.length ++ M.flatMap mutP))) ∧ Ext w w' := by
  have HROW := Lib.hid hM.rows
  obtain ⟨am, cm, rfl, hcm, hcmm, hgm⟩ := hM.get
  have HGM := Lib.hid hgm
  have HMB := Lib.hid hMo
  have HMT := Lib.hid (fun k (hk : k ≤ 100) => flat_takeLe (f := mutP) (l := M) (k := k) (m := 100) (fun m hm => mutP_le (hMo m hm)) hk)
  clear hgm hMo hM
  obtain ⟨mn, hmn⟩ : ∃ n, n = M.length := ⟨_, rfl⟩
  rw [← hmn] at hcm h64 ⊢
  have HMN := Lib.hid hmn
  clear hmn
  obtain ⟨B0, hB0⟩ : ∃ B, B = num mn := ⟨_, rfl⟩
  rw [← hB0]
  have hB0l : B0.length ≤ 9 := by rw [hB0]; exact num_length (by omega)
  have H0 := Lib.hid hB0
  clear hB0
  go_enter Tryz.func34, Tryz.ntmps34
  go_wp2_with (go_at_call 33; go_must (refine (r9_num (mn : Int) (by omega) (by omega) _).mono ?_); rintro e w2 ⟨rfl, hE2⟩; rw [Int.toNat_natCast, ← H0.out])
  go_loopw [3, 4] (fun s i wr => ∃ (k : Nat) (S : ByteArray), k ≤ mn ∧ i = .int .i64 (k : Int) ∧ s = .string S ∧ Ext w wr ∧ Hid (S = str (B0 ++ (M.take k).flatMap mutP))) (fun _ i _ => mn - (intOf i).toNat)
  case atStart => exact ⟨0, _, Nat.zero_le _, rfl, rfl, hE2, Lib.hid (by rw [List.take_zero, List.flatMap_nil, List.append_nil])⟩
  case round =>
    obtain ⟨k, S, hk, rfl, rfl, hE, HS⟩ := hrel
    have htl := HMT.out k (by omega)
    have hSl : S.size ≤ 191020009 := by rw [HS.out, str_size, List.length_append]; omega
    clear htl
    by_cases hlt : k < mn
    · have hkF : k < M.length := by rw [← HMN.out]; exact hlt
      obtain ⟨b, o, rfl, ⟨g0, g1, g2, g3⟩⟩ := HGM.out k hkF
      obtain ⟨ra, rc, hrv⟩ : ∃ a c, (M[k]).pa.rv = .slice a (M[k]).pa.ps.length c := let ⟨a, c, e, _⟩ := (HROW.out _ (List.getElem_mem hkF)).get; ⟨a, c, e⟩
      have hrw := HROW.out _ (List.getElem_mem hkF)
      rw [hrv] at g3 hrw
      replace g0 := hE.cell g0
      replace g1 := hE.cell g1
      replace g2 := hE.cell g2
      replace g3 := hE.cell g3
      have hok := HMB.out _ (List.getElem_mem hkF)
      unfold okMt at hok
      simp only [Bool.and_eq_true] at hok
      have HTK : Hid ((M.take (k + 1)).flatMap mutP = (M.take k).flatMap mutP ++ mutQ (M[k]).table (M[k]).pa.key (M[k]).pa.gone ((M[k]).pa.ps.map (·.1))) := Lib.hid (flat_take (f := mutP) (List.drop_eq_getElem_cons hkF))
      obtain ⟨t, ht⟩ : ∃ t, t = (M[k]).table := ⟨_, rfl⟩
      obtain ⟨ky, hky⟩ : ∃ t, t = (M[k]).pa.key := ⟨_, rfl⟩
      obtain ⟨gn, hgn⟩ : ∃ t, t = (M[k]).pa.gone := ⟨_, rfl⟩
      obtain ⟨ps, hps⟩ : ∃ t, t = (M[k]).pa.ps := ⟨_, rfl⟩
      rw [← ht] at g0 hok HTK
      rw [← hky] at g1 hok HTK
      rw [← hgn] at g2 hok HTK
      rw [← hps] at g3 hrw hok HTK
      obtain ⟨rn, hrn⟩ : ∃ n, n = ps.length := ⟨_, rfl⟩
      rw [← hrn] at g3 hrw
      have q1 := nameB_size hok.1
      have HOP := Lib.hid (ptB_ok hok.2)
      have hwl := wholeP_le8 hok.2
      clear ht hky hgn hps hrv hrn hok
      obtain ⟨Wh, hWh⟩ : ∃ L, L = str (wholeP ky gn (ps.map (·.1))) := ⟨_, rfl⟩
      obtain ⟨T1, hT1⟩ : ∃ T, T = txT t := ⟨_, rfl⟩
      obtain ⟨T2, hT2⟩ : ∃ T, T = txT Wh := ⟨_, rfl⟩
      have zW : Wh.size ≤ 1910000 := by rw [hWh, str_size]; exact hwl
      have z1 : T1.size ≤ 109 := by rw [hT1]; have := txT_size t (by omega); omega
      have z2 : T2.size ≤ 1910009 := by rw [hT2]; have := txT_size Wh (by omega); omega
      have p1 : ¬ 9223372036854775807 < S.size + T1.size := by omega
      have p2 : ¬ 9223372036854775807 < S.size + T1.size + T2.size := by omega
      have t1 : decide ((k : Int) < (mn : Int)) = true := by simp; omega
      have HW := Lib.hid hWh
      have HT1 := Lib.hid hT1
      have HT2 := Lib.hid hT2
      have HRW := Lib.hid hrw
      have hEr := hE
      clear hWh hT1 hT2 hwl hrw
      replace g0 := held g0
      replace g1 := held g1
      replace g2 := held g2
      replace g3 := held g3
      go_wp2_with fail
      refine wp_region_tab 16 [(6, fun v _ => v = .string T1), (13, fun v _ => v = .string Wh), (14, fun v _ => v = .string T2)] (by kernel_rfl) (by kernel_rfl) (by kernel_rfl) ⟨stays_eq _, stays_eq _, stays_eq _, trivial⟩ ?_
      refine rg_quiet rfl rfl rfl rfl ?_; intro K hK; go_big_quiet_op; go_big_quiet_on
      refine rg_quiet rfl rfl rfl rfl ?_; intro K hK; go_big_quiet_op; go_big_quiet_on
      refine rg_quiet rfl rfl rfl rfl ?_; intro K hK; go_big_quiet_op; go_big_quiet_on
      refine rg_quiet rfl rfl rfl rfl ?_; intro K hK; go_big_quiet_op; go_big_quiet_on
      refine rg_quiet rfl rfl rfl rfl ?_; intro K hK; go_big_quiet_op; go_big_quiet_on
      refine rg_quiet rfl rfl rfl rfl ?_; intro K hK; go_big_quiet_op; go_big_quiet_on
      refine rg_val [] rfl rfl rfl (by kernel_rfl) (fun w1 hE hf => ?_) ?_
      · go_simp
        exact ((HT1.out ▸ r9_text t (by omega) _)).mono fun e w' ⟨he, hw⟩ => ⟨_, he, rg_done hE hw (rfl)⟩
      simp only [Act.put, List.setIfInBounds_toArray, List.set_cons_zero, List.set_cons_succ]
      refine rg_quiet rfl rfl rfl rfl ?_; intro K hK; go_big_quiet_op; go_big_quiet_on
      refine rg_quiet rfl rfl rfl rfl ?_; intro K hK; go_big_quiet_op; go_big_quiet_on
      refine rg_quiet rfl rfl rfl rfl ?_; intro K hK; go_big_quiet_op; go_big_quiet_on
      refine rg_quiet rfl rfl rfl rfl ?_; intro K hK; go_big_quiet_op; go_big_quiet_on
      refine rg_quiet rfl rfl rfl rfl ?_; intro K hK; go_big_quiet_op; go_big_quiet_on
      refine rg_quiet rfl rfl rfl rfl ?_; intro K hK; go_big_quiet_op; go_big_quiet_on
      refine rg_val [] rfl rfl rfl (by kernel_rfl) (fun w1 hE hf => ?_) ?_
      · go_simp
        exact ((HW.out ▸ r9_bytes ky gn _ ps HOP.out _ (HRW.out.ext (hEr.trans hE)))).mono fun e w' ⟨he, hw⟩ => ⟨_, he, rg_done hE hw (rfl)⟩
      simp only [Act.put, List.setIfInBounds_toArray, List.set_cons_zero, List.set_cons_succ]
      refine rg_val [] rfl rfl rfl (by kernel_rfl) (fun w1 hE hf => ?_) ?_
      · go_simp
        exact ((HT2.out ▸ r9_text Wh (by omega) _)).mono fun e w' ⟨he, hw⟩ => ⟨_, he, rg_done hE hw (rfl)⟩
      simp only [Act.put, List.setIfInBounds_toArray, List.set_cons_zero, List.set_cons_succ]
      refine rg_quiet rfl rfl rfl rfl ?_; intro K hK; go_big_quiet_op; go_big_quiet_on
      refine rel_tail rfl rfl fun w6 hE6 _ => ?_
      clear g0 g1 g2 g3
      go_wp2_with fail
      go_roundw
      case rel => exact ⟨k + 1, _, hlt, by go_num, rfl, hE.trans hE6, Lib.hid (by
        rw [HTK.out, HS.out, HT1.out, HT2.out, HW.out]
        unfold mutQ txT
        simp only [str_app, List.append_assoc, str_size]
        rfl)⟩
      case measure => simp [intOf]; omega
    · obtain rfl : k = mn := by omega
      have HF : Hid (S = str (B0 ++ M.flatMap mutP)) := Lib.hid (by rw [HS.out, List.take_of_length_le (by rw [HMN.out]; exact Nat.le_refl _)])
      go_wp2_with fail
      go_ret
      exact ⟨ret_str HF.out, hE⟩
end Go.Proofs.YtfagnbofnaoncaaGreatDoor

/- clerestoryref21.Check of any message. -/
namespace Go.Proofs.YtfagnbofnaoncaaGreatDoor
open Go Go.RowKit
attribute [local go_sem] yields yUpon

set_option maxHeartbeats 400000 in
theorem in21_any (v most : Int) (w : World) : Calls Tryz.prog 51 #[.int .i64 v, .int .i64 most] w fun e w' => e = .returned (.bool (inB v most)) ∧ w = w' := by
  by_cases h : 0 ≤ v
  · have t : decide (0 ≤ v) = true := by simpa using h
    have e : inB v most = decide (v ≤ most) := by unfold inB; rw [t]; rfl
    rw [e]
    go_enter Tryz.func51, Tryz.ntmps51
    go_wp2
    go_ret
    exact ⟨rfl, rfl⟩
  · have t : decide (0 ≤ v) = false := by simpa using h
    have e : inB v most = false := by unfold inB; rw [t]; rfl
    rw [e]
    go_enter Tryz.func51, Tryz.ntmps51
    go_wp2
    go_ret
    exact ⟨rfl, rfl⟩

set_option maxRecDepth 100000 in
set_option maxHeartbeats 16000000 in
theorem rcheck21 (m : Hd) (vm vk : Value) (M : List Mt) (ks : List ByteArray) (w : World) (hM : MtsIn w vm M) (hK : TxIn w vk ks) (hMb : ∀ x ∈ M, x.table.size ≤ 1000000 ∧ ∀ p ∈ x.pa.ps, ∀ c ∈ p.1.cols, c.name.size ≤ 1000000) (hKb : ∀ s ∈ ks, s.size ≤ 1000000) :
    Calls Tryz.prog 13 #[.agg (hd7 m vm vk)] w fun e w' => e = .returned (.bool (msB m M ks)) ∧ Ext w w' := by
  obtain ⟨kd, fr, to, id, nm⟩ := m
  have HMI := Lib.hid hM
  have HKI := Lib.hid hK
  obtain ⟨am, cm, rfl, _⟩ := hM.get
  obtain ⟨ak, ck, rfl, _⟩ := hK.get
  unfold hd7
  simp only
  have hE0 := (Ext.refl w).alloc (.cells #[.int .i64 kd, .int .i64 fr, .int .i64 to, .int .i64 id, .slice am M.length cm, .slice ak ks.length ck, .int .i64 nm] 25)
  have hbx := BoxAt.made w #[.int .i64 kd, .int .i64 fr, .int .i64 to, .int .i64 id, .slice am M.length cm, .slice ak ks.length ck, .int .i64 nm] 25
  have HMb := Lib.hid hMb
  have HKb := Lib.hid hKb
  obtain ⟨R, hR⟩ : ∃ R, R = msB ⟨kd, fr, to, id, nm⟩ M ks := ⟨_, rfl⟩
  rw [← hR]
  unfold msB at hR
  simp only at hR
  have HR := Lib.hid hR
  clear hMb hKb hM hK hR
  by_cases a1 : 1 ≤ kd
  rotate_left
  · have HF : Hid (R = false) := Lib.hid (by rw [HR.out, decide_eq_false (show ¬ 1 ≤ kd from a1)]; simp)
    have ta1 : decide (kd < 1) = true := by simp; omega
    go_enter Tryz.func13, Tryz.ntmps13
    go_wp2
    go_ret
    exact ⟨by rw [HF.out]; rfl, hE0⟩
  by_cases a2 : kd ≤ 8
  rotate_left
  · have HF : Hid (R = false) := Lib.hid (by rw [HR.out, decide_eq_false (show ¬ kd ≤ 8 from a2)]; simp)
    have ta1 : ¬ kd < 1 := by omega
    have ta2 : decide (8 < kd) = true := by simp; omega
    go_enter Tryz.func13, Tryz.ntmps13
    go_wp2
    go_ret
    exact ⟨by rw [HF.out]; rfl, hE0⟩
  cases b1 : inB fr 4
  · have HF : Hid (R = false) := Lib.hid (by rw [HR.out, b1]; simp)
    have ta1 : ¬ kd < 1 := by omega
    have ta2 : ¬ 8 < kd := by omega
    have tb1 := Lib.hid (show inB fr 4 = false from b1)
    clear b1
    go_enter Tryz.func13, Tryz.ntmps13
    go_wp2_with (go_at_call 51; go_must (refine (in21_any _ _ _).mono ?_); rintro e w5 ⟨rfl, rfl⟩; first | rw [tb1.out])
    go_ret
    exact ⟨by rw [HF.out]; rfl, hE0⟩
  · skip
    cases c1 : inB to 4
    · have HF : Hid (R = false) := Lib.hid (by rw [HR.out, c1]; simp)
      have ta1 : ¬ kd < 1 := by omega
      have ta2 : ¬ 8 < kd := by omega
      have tb1 := Lib.hid (show inB fr 4 = true from b1)
      clear b1
      have tc1 := Lib.hid (show inB to 4 = false from c1)
      clear c1
      go_enter Tryz.func13, Tryz.ntmps13
      go_wp2_with (go_at_call 51; go_must (refine (in21_any _ _ _).mono ?_); rintro e w5 ⟨rfl, rfl⟩; first | rw [tb1.out] | rw [tc1.out])
      go_ret
      exact ⟨by rw [HF.out]; rfl, hE0⟩
    · skip
      cases d1 : inB id 1099511627776
      · have HF : Hid (R = false) := Lib.hid (by rw [HR.out, d1]; simp)
        have ta1 : ¬ kd < 1 := by omega
        have ta2 : ¬ 8 < kd := by omega
        have tb1 := Lib.hid (show inB fr 4 = true from b1)
        clear b1
        have tc1 := Lib.hid (show inB to 4 = true from c1)
        clear c1
        have td1 := Lib.hid (show inB id 1099511627776 = false from d1)
        clear d1
        go_enter Tryz.func13, Tryz.ntmps13
        go_wp2_with (go_at_call 51; go_must (refine (in21_any _ _ _).mono ?_); rintro e w5 ⟨rfl, rfl⟩; first | rw [tb1.out] | rw [tc1.out] | rw [td1.out])
        go_ret
        exact ⟨by rw [HF.out]; rfl, hE0⟩
      · skip
        cases e1 : inB nm 1099511627776
        · have HF : Hid (R = false) := Lib.hid (by rw [HR.out, e1]; simp)
          have ta1 : ¬ kd < 1 := by omega
          have ta2 : ¬ 8 < kd := by omega
          have tb1 := Lib.hid (show inB fr 4 = true from b1)
          clear b1
          have tc1 := Lib.hid (show inB to 4 = true from c1)
          clear c1
          have td1 := Lib.hid (show inB id 1099511627776 = true from d1)
          clear d1
          have te1 := Lib.hid (show inB nm 1099511627776 = false from e1)
          clear e1
          go_enter Tryz.func13, Tryz.ntmps13
          go_wp2_with (go_at_call 51; go_must (refine (in21_any _ _ _).mono ?_); rintro e w5 ⟨rfl, rfl⟩; first | rw [tb1.out] | rw [tc1.out] | rw [td1.out] | rw [te1.out])
          go_ret
          exact ⟨by rw [HF.out]; rfl, hE0⟩
        · skip
          by_cases g1 : ks.length ≤ 40
          rotate_left
          · have HF : Hid (R = false) := Lib.hid (by rw [HR.out, decide_eq_false (show ¬ ks.length ≤ 40 from g1)]; simp)
            have ta1 : ¬ kd < 1 := by omega
            have ta2 : ¬ 8 < kd := by omega
            have tb1 := Lib.hid (show inB fr 4 = true from b1)
            clear b1
            have tc1 := Lib.hid (show inB to 4 = true from c1)
            clear c1
            have td1 := Lib.hid (show inB id 1099511627776 = true from d1)
            clear d1
            have te1 := Lib.hid (show inB nm 1099511627776 = true from e1)
            clear e1
            have tg1 : decide ((40 : Int) < (ks.length : Int)) = true := by simp; omega
            go_enter Tryz.func13, Tryz.ntmps13
            go_wp2_with (go_at_call 51; go_must (refine (in21_any _ _ _).mono ?_); rintro e w5 ⟨rfl, rfl⟩; first | rw [tb1.out] | rw [tc1.out] | rw [td1.out] | rw [te1.out])
            go_ret
            exact ⟨by rw [HF.out]; rfl, hE0⟩
          have HT : Hid (R = (decide (M.length ≤ 100) && !ks.any longB && !M.any badG)) := Lib.hid (by rw [HR.out, decide_eq_true a1, decide_eq_true a2, b1, c1, d1, e1, decide_eq_true g1]; simp)
          have ta1 : ¬ kd < 1 := by omega
          have ta2 : ¬ 8 < kd := by omega
          have tb1 := Lib.hid (show inB fr 4 = true from b1)
          clear b1
          have tc1 := Lib.hid (show inB to 4 = true from c1)
          clear c1
          have td1 := Lib.hid (show inB id 1099511627776 = true from d1)
          clear d1
          have te1 := Lib.hid (show inB nm 1099511627776 = true from e1)
          clear e1
          have tg1 : ¬ (40 : Int) < (ks.length : Int) := by omega
          have hget := HKI.out.get
          obtain ⟨ak', ck', ek, hck, hckm, hgk⟩ := hget
          cases ek
          have HGK := Lib.hid hgk
          obtain ⟨n, hn⟩ : ∃ n, n = ks.length := ⟨_, rfl⟩
          rw [← hn] at hck hE0 hbx tg1 ⊢
          have HN := Lib.hid hn
          clear hn hgk
          go_enter Tryz.func13, Tryz.ntmps13
          go_wp2_with (go_at_call 51; go_must (refine (in21_any _ _ _).mono ?_); rintro e w5 ⟨rfl, rfl⟩; first | rw [tb1.out] | rw [tc1.out] | rw [td1.out] | rw [te1.out])
          generalize World.alloc w _ = w1 at hE0 hbx ⊢
          go_loopw [3] (fun i wr => ∃ k : Nat, k ≤ n ∧ i = .int .i64 (k : Int) ∧ Hid (ks.any longB = (ks.drop k).any longB) ∧ Ext w1 wr) (fun i _ => n - (intOf i).toNat)
          case atStart => exact ⟨0, Nat.zero_le _, rfl, Lib.hid rfl, Ext.refl w1⟩
          case round =>
            obtain ⟨k, hk, rfl, HX, hE⟩ := hrel
            have hb := hbx.ext hE
            have x4 : wr.cell? ⟨w.heap.size, 4, none⟩ = some (.slice am M.length cm) := hb.cell 4
            have x5 : wr.cell? ⟨w.heap.size, 5, none⟩ = some (.slice ak n ck) := hb.cell 5
            by_cases hlt : k < n
            · have hkF : k < ks.length := by rw [← HN.out]; exact hlt
              obtain ⟨b, o, rfl, y0⟩ := HGK.out k hkF
              replace y0 := (hE0.trans hE).cell y0
              have hsz := HKb.out _ (List.getElem_mem hkF)
              have HD := Lib.hid (any_drop (p := longB) hkF)
              obtain ⟨s, hs⟩ : ∃ s, s = ks[k] := ⟨_, rfl⟩
              rw [← hs] at y0 hsz HD
              clear hs
              have t1 : decide ((k : Int) < (n : Int)) = true := by simpa using hlt
              have HL : Hid (longB s = decide (100 < s.size)) := Lib.hid rfl
              by_cases hl : 100 < s.size
              · have t2 : decide ((100 : Int) < (s.size : Int)) = true := by simp; omega
                have HF : Hid (R = false) := Lib.hid (by rw [HT.out, HX.out, HD.out, HL.out, decide_eq_true hl]; simp)
                go_wp2_with fail
                go_ret
                exact ⟨by rw [HF.out]; rfl, hE0.trans hE⟩
              · have t2 : decide ((100 : Int) < (s.size : Int)) = false := by simp; omega
                have HX2 : Hid (ks.any longB = (ks.drop (k + 1)).any longB) := Lib.hid (by rw [HX.out, HD.out, HL.out, decide_eq_false hl]; rfl)
                go_wp2_with fail
                go_roundw
                case rel => exact ⟨k + 1, by omega, by go_num, HX2, hE⟩
                case measure => simp [intOf]; omega
            · obtain rfl : k = n := by omega
              have HT2 : Hid (R = (M.all okMt && decide ((M.length : Int) ≤ 100))) := Lib.hid (by
                have h1 := HX.out
                rw [HN.out, List.drop_length] at h1
                rw [HT.out, h1]
                have h2 : (!M.any badG) = M.all okMt := by
                  rw [List.all_eq_not_any_not]
                  rfl
                rw [h2]
                have h3 : decide (M.length ≤ 100) = decide ((M.length : Int) ≤ 100) := by
                  by_cases h : M.length ≤ 100
                  · rw [decide_eq_true h, decide_eq_true (by omega)]
                  · rw [decide_eq_false h, decide_eq_false (by omega)]
                rw [h3]
                cases M.all okMt <;> cases decide ((M.length : Int) ≤ 100) <;> rfl)
              go_wp2_with (go_at_call 52; go_must (refine (r9_checkmutsN 100 _ M _ (HMI.out.ext (hE0.trans hE)) HMb.out).mono ?_); rintro e w7 ⟨rfl, hE7⟩; rw [← HT2.out])
              go_ret
              exact ⟨rfl, (hE0.trans hE).trans hE7⟩
end Go.Proofs.YtfagnbofnaoncaaGreatDoor
