/- The reference of chapter 9: Num, Text, cell. -/
import Derived.Test.YtcmgeccgahakbaaDoorS12
import Derived.Test.YtcmgeccgahakbaaDoorS19
import Derived.Test.YtcmgeccgahakbaaDoorS13
import Derived.Test.YtcmgeccgahakbaaDoorS8
import Derived.Test.YtcmgeccgahakbaaDoorS7
set_option linter.unusedSimpArgs false
set_option linter.unusedVariables false
namespace Go.Proofs.YtcmgeccgahakbaaDoor
open Go Go.RowKit
attribute [local go_sem] yields yUpon

theorem str_dat (s : ByteArray) : str s.data.toList = s := rfl
theorem str_txt (l : List UInt8) (s : ByteArray) : str l ++ s = str (l ++ s.data.toList) := by
  conv => lhs; rw [← str_dat s]
  exact str_app _ _
set_option maxHeartbeats 400000 in
theorem r9_num (X : Int) (h0 : 0 ≤ X) (h1 : X ≤ 9223372036854775807) (w : World) :
    Calls Tryd.prog 62 #[.int .i64 X] w fun e w' => e = .returned (.string (str (num X.toNat))) ∧ Ext w w' := by
  have hX : X = ((X.toNat : Nat) : Int) := by omega
  have hlt : X.toNat < 18446744073709551616 := by omega
  obtain ⟨x, hx⟩ : ∃ x, x = X.toNat := ⟨_, rfl⟩
  rw [← hx] at hX hlt ⊢
  clear hx
  subst hX
  have hw : IntKind.u64.wrap (x : Int) = (x : Int) := by rw [IntKind.wrap_u64]; omega
  go_enter Tryd.func62, Tryd.ntmps62
  go_wp2_with (go_at_call 114; go_must (refine (rnum_any x hlt _).mono ?_); rintro e w1 ⟨rfl, hE1⟩)
  go_ret
  exact ⟨rfl, hE1⟩
/-- A text's bytes. -/
def txT (s : ByteArray) : ByteArray := str (num s.size ++ s.data.toList)
theorem txT_size (s : ByteArray) (hs : s.size ≤ 1000000000) : (txT s).size ≤ s.size + 9 := by
  have := num_length (x := s.size) (by omega)
  unfold txT
  rw [str_size, List.length_append, dat_size]
  omega
set_option maxHeartbeats 400000 in
theorem r9_text (s : ByteArray) (hs : s.size ≤ 1000000000) (w : World) :
    Calls Tryd.prog 63 #[.string s] w fun e w' => e = .returned (.string (txT s)) ∧ Ext w w' := by
  obtain ⟨M, hM⟩ : ∃ M, M = str (num s.size) := ⟨_, rfl⟩
  have hMl : M.size ≤ 9 := by rw [hM, str_size]; exact num_length (by omega)
  have q1 : ¬ 9223372036854775807 < M.size + s.size := by omega
  have HM := Lib.hid hM
  clear hM
  go_enter Tryd.func63, Tryd.ntmps63
  go_wp2_with (go_at_call 62; go_must (refine (r9_num (s.size : Int) (by omega) (by omega) _).mono ?_); rintro e w1 ⟨rfl, hE1⟩; rw [show str (num (s.size : Int).toNat) = M from by rw [HM.out]; rfl])
  go_ret
  exact ⟨ret_str (by rw [HM.out, str_txt]; rfl), hE1⟩

set_option maxRecDepth 100000 in
set_option maxHeartbeats 4000000 in
theorem r9_cell (c : Cl) (hc : OkC c) (w : World) :
    Calls Tryd.prog 112 #[.agg (cl4 c)] w fun e w' => e = .returned (.string (str (cellP c))) ∧ Ext w w' := by
  have hE0 := (Ext.refl w).alloc (.cells (cl4 c) 88)
  have hbx := BoxAt.made w (cl4 c) 88
  obtain ⟨val, dead, at_, fin⟩ := c
  obtain ⟨h0, h1, h2, h3, h4⟩ := hc
  simp only at h0 h1 h2 h3 h4
  unfold cl4 at *
  simp only at hbx hE0 ⊢
  have x0 : (w.alloc (.cells #[.string val, .bool dead, .int .i64 at_, .int .i64 fin] 88)).cell? ⟨w.heap.size, 0, none⟩ = some (.string val) := hbx.cell 0
  have x1 : (w.alloc (.cells #[.string val, .bool dead, .int .i64 at_, .int .i64 fin] 88)).cell? ⟨w.heap.size, 1, none⟩ = some (.bool dead) := hbx.cell 1
  have x2 : (w.alloc (.cells #[.string val, .bool dead, .int .i64 at_, .int .i64 fin] 88)).cell? ⟨w.heap.size, 2, none⟩ = some (.int .i64 at_) := hbx.cell 2
  have x3 : (w.alloc (.cells #[.string val, .bool dead, .int .i64 at_, .int .i64 fin] 88)).cell? ⟨w.heap.size, 3, none⟩ = some (.int .i64 fin) := hbx.cell 3
  obtain ⟨A, hA⟩ : ∃ A, A = str (num at_.toNat) := ⟨_, rfl⟩
  obtain ⟨V, hV⟩ : ∃ V, V = txT val := ⟨_, rfl⟩
  obtain ⟨F, hF⟩ : ∃ F, F = str (num fin.toNat) := ⟨_, rfl⟩
  have zA : A.size ≤ 9 := by rw [hA, str_size]; exact num_length (by omega)
  have zF : F.size ≤ 9 := by rw [hF, str_size]; exact num_length (by omega)
  have zV : V.size ≤ 1009 := by rw [hV]; have := txT_size val (by omega); omega
  have q1 : ¬ 9223372036854775807 < A.size + 1 := by omega
  have q2 : ¬ 9223372036854775807 < A.size + 1 + V.size := by omega
  have q3 : ¬ 9223372036854775807 < A.size + 1 + V.size + F.size := by omega
  have HA := Lib.hid hA
  have HV := Lib.hid hV
  have HF := Lib.hid hF
  clear hA hV hF zA zF zV
  by_cases e0 : at_ = 0
  · subst e0
    go_enter Tryd.func112, Tryd.ntmps112
    go_wp2_with (go_at_call 62; go_must (refine (r9_num 0 (by omega) (by omega) _).mono ?_); rintro e w1 ⟨rfl, hE1⟩)
    go_ret
    exact ⟨ret_str (by unfold cellP; rw [if_pos rfl, List.append_nil]; rfl), hE0.trans hE1⟩
  · by_cases ed : dead = true
    · subst ed
      go_enter Tryd.func112, Tryd.ntmps112
      go_wp2_with (go_at_call 62; go_must (refine (r9_num at_ (by omega) (by omega) _).mono ?_); rintro e w1 ⟨rfl, hE1⟩; rw [← HA.out])
      go_ret
      exact ⟨ret_str (by rw [HA.out]; unfold cellP; rw [if_neg e0, if_pos rfl]; exact str_app _ [1]), hE0.trans hE1⟩
    · obtain rfl : dead = false := by simpa using ed
      go_enter Tryd.func112, Tryd.ntmps112
      go_wp2
      refine wp_region_tab 12 [(2, fun v _ => v = .string A), (6, fun v _ => v = .string V), (10, fun v _ => v = .string F)] (by kernel_rfl) (by kernel_rfl) (by kernel_rfl) ⟨stays_eq _, stays_eq _, stays_eq _, trivial⟩ ?_
      replace x0 := held x0
      replace x2 := held x2
      replace x3 := held x3
      refine rg_quiet rfl rfl rfl rfl ?_; intro K hK; go_big_quiet_op; go_big_quiet_on
      refine rg_quiet rfl rfl rfl rfl ?_; intro K hK; go_big_quiet_op; go_big_quiet_on
      refine rg_val [] rfl rfl rfl (by kernel_rfl) (fun w1 hE hf => ?_) ?_
      · go_simp
        exact ((HA.out ▸ r9_num at_ (by omega) (by omega) _)).mono fun e w' ⟨he, hw⟩ => ⟨_, he, rg_done hE hw (rfl)⟩
      simp only [Act.put, List.setIfInBounds_toArray, List.set_cons_zero, List.set_cons_succ]
      refine rg_quiet rfl rfl rfl rfl ?_; intro K hK; go_big_quiet_op; go_big_quiet_on
      refine rg_quiet rfl rfl rfl rfl ?_; intro K hK; go_big_quiet_op; go_big_quiet_on
      refine rg_quiet rfl rfl rfl rfl ?_; intro K hK; go_big_quiet_op; go_big_quiet_on
      refine rg_val [] rfl rfl rfl (by kernel_rfl) (fun w1 hE hf => ?_) ?_
      · go_simp
        exact ((HV.out ▸ r9_text val (by omega) _)).mono fun e w' ⟨he, hw⟩ => ⟨_, he, rg_done hE hw (rfl)⟩
      simp only [Act.put, List.setIfInBounds_toArray, List.set_cons_zero, List.set_cons_succ]
      refine rg_quiet rfl rfl rfl rfl ?_; intro K hK; go_big_quiet_op; go_big_quiet_on
      refine rg_quiet rfl rfl rfl rfl ?_; intro K hK; go_big_quiet_op; go_big_quiet_on
      refine rg_quiet rfl rfl rfl rfl ?_; intro K hK; go_big_quiet_op; go_big_quiet_on
      refine rg_val [] rfl rfl rfl (by kernel_rfl) (fun w1 hE hf => ?_) ?_
      · go_simp
        exact ((HF.out ▸ r9_num fin (by omega) (by omega) _)).mono fun e w' ⟨he, hw⟩ => ⟨_, he, rg_done hE hw (rfl)⟩
      simp only [Act.put, List.setIfInBounds_toArray, List.set_cons_zero, List.set_cons_succ]
      refine rg_quiet rfl rfl rfl rfl ?_; intro K hK; go_big_quiet_op; go_big_quiet_on
      refine rel_tail rfl rfl fun w2 hE2 _ => ?_
      go_wp2
      go_ret
      refine ⟨ret_str ?_, hE0.trans hE2⟩
      rw [HA.out, HV.out, HF.out]
      unfold cellP txT
      rw [if_neg e0, if_neg (by simp)]
      have e1 : (⟨#[0]⟩ : ByteArray) = str [0] := rfl
      rw [e1, str_app, str_app, str_app]
      simp only [List.append_assoc]
end Go.Proofs.YtcmgeccgahakbaaDoor

/- The reference of chapter 9: bytes (a partition's), Part. -/
namespace Go.Proofs.YtcmgeccgahakbaaDoor
open Go Go.RowKit
attribute [local go_sem] yields yUpon

theorem strcat (a b : ByteArray) (l m : List UInt8) (ha : a = str l) (hb : b = str m) : a ++ b = str (l ++ m) := by rw [ha, hb, str_app]

set_option maxRecDepth 100000 in
set_option maxHeartbeats 16000000 in
theorem r9_bytes (k : ByteArray) (g : Int) (u : Value) (ps : List (Ro × Value)) (hp : OkP k g (ps.map (·.1))) (w : World) (hin : RowsIn w u ps) :
    Calls Tryd.prog 57 #[.agg #[.string k, .int .i64 g, u]] w fun e w' => e = .returned (.string (str (wholeP k g (ps.map (·.1))))) ∧ Ext w w' := by
  have hE0 := (Ext.refl w).alloc (.cells #[.string k, .int .i64 g, u] 24)
  have hbx := BoxAt.made w #[.string k, .int .i64 g, u] 24
  have hcols := Lib.hid hin.cols
  obtain ⟨au, cu, rfl, hcu, hcum, hget⟩ := hin.get
  obtain ⟨k1, k2, k3, k4, k5⟩ := hp
  rw [List.length_map] at k4
  obtain ⟨T, hT⟩ : ∃ T, T = txT k := ⟨_, rfl⟩
  obtain ⟨G, hG⟩ : ∃ G, G = str (num g.toNat) := ⟨_, rfl⟩
  obtain ⟨R, hR⟩ : ∃ R, R = str (num ps.length) := ⟨_, rfl⟩
  have zT : T.size ≤ 1009 := by rw [hT]; have := txT_size k (by omega); omega
  have zG : G.size ≤ 9 := by rw [hG, str_size]; exact num_length (by omega)
  have zR : R.size ≤ 9 := by rw [hR, str_size]; exact num_length (by omega)
  have q1 : ¬ 9223372036854775807 < T.size + G.size := by omega
  have q2 : ¬ 9223372036854775807 < T.size + G.size + R.size := by omega
  obtain ⟨B3, hB3⟩ : ∃ B, B = num k.size ++ k.data.toList ++ num g.toNat ++ num ps.length := ⟨_, rfl⟩
  have m3 : B3.length ≤ 1027 := by
    have l1 := num_length (x := k.size) (by omega)
    have l2 := num_length (x := g.toNat) (by omega)
    have l3 := num_length (x := ps.length) (by omega)
    rw [hB3]; simp only [List.length_append, dat_size]; omega
  have HB3 : Hid (T ++ G ++ R = str B3) := Lib.hid (by rw [hT, hG, hR]; unfold txT; rw [str_app, str_app, hB3])
  have HW : Hid (wholeP k g (ps.map (·.1)) = B3 ++ (ps.map (·.1)).flatMap rowP) := Lib.hid (by rw [hB3]; unfold wholeP; rw [List.length_map])
  have HT := Lib.hid hT
  have HG0 := Lib.hid hG
  have HR := Lib.hid hR
  have HG := Lib.hid hget
  have HK := Lib.hid k5
  rw [HW.out]
  obtain ⟨n, hn⟩ : ∃ n, n = ps.length := ⟨_, rfl⟩
  rw [← hn] at hbx hE0 hcu k4 HR ⊢
  have HN := Lib.hid hn
  clear hT hG hR hget k5 hn hin hB3 zT zG zR
  go_enter Tryd.func57, Tryd.ntmps57
  go_wp2
  refine wp_region_tab 12 [(2, fun v _ => v = .string T), (5, fun v _ => v = .string G), (10, fun v _ => v = .string R)] (by kernel_rfl) (by kernel_rfl) (by kernel_rfl) ⟨stays_eq _, stays_eq _, stays_eq _, trivial⟩ ?_
  have c0 := held (show (w.alloc (.cells #[.string k, .int .i64 g, .slice au n cu] 24)).cell? ⟨w.heap.size, 0, none⟩ = some (.string k) from hbx.cell 0)
  have c1 := held (show (w.alloc (.cells #[.string k, .int .i64 g, .slice au n cu] 24)).cell? ⟨w.heap.size, 1, none⟩ = some (.int .i64 g) from hbx.cell 1)
  have c2 := held (show (w.alloc (.cells #[.string k, .int .i64 g, .slice au n cu] 24)).cell? ⟨w.heap.size, 2, none⟩ = some (.slice au n cu) from hbx.cell 2)
  refine rg_quiet rfl rfl rfl rfl ?_; intro K hK; go_big_quiet_op; go_big_quiet_on
  refine rg_quiet rfl rfl rfl rfl ?_; intro K hK; go_big_quiet_op; go_big_quiet_on
  refine rg_val [] rfl rfl rfl (by kernel_rfl) (fun w1 hE hf => ?_) ?_
  · go_simp
    exact ((HT.out ▸ r9_text k (by omega) _)).mono fun e w' ⟨he, hw⟩ => ⟨_, he, rg_done hE hw (rfl)⟩
  simp only [Act.put, List.setIfInBounds_toArray, List.set_cons_zero, List.set_cons_succ]
  refine rg_quiet rfl rfl rfl rfl ?_; intro K hK; go_big_quiet_op; go_big_quiet_on
  refine rg_quiet rfl rfl rfl rfl ?_; intro K hK; go_big_quiet_op; go_big_quiet_on
  refine rg_val [] rfl rfl rfl (by kernel_rfl) (fun w1 hE hf => ?_) ?_
  · go_simp
    exact ((HG0.out ▸ r9_num g (by omega) (by omega) _)).mono fun e w' ⟨he, hw⟩ => ⟨_, he, rg_done hE hw (rfl)⟩
  simp only [Act.put, List.setIfInBounds_toArray, List.set_cons_zero, List.set_cons_succ]
  refine rg_quiet rfl rfl rfl rfl ?_; intro K hK; go_big_quiet_op; go_big_quiet_on
  refine rg_quiet rfl rfl rfl rfl ?_; intro K hK; go_big_quiet_op; go_big_quiet_on
  refine rg_quiet rfl rfl rfl rfl ?_; intro K hK; go_big_quiet_op; go_big_quiet_on
  refine rg_quiet rfl rfl rfl rfl ?_; intro K hK; go_big_quiet_op; go_big_quiet_on
  refine rg_val [] rfl rfl rfl (by kernel_rfl) (fun w1 hE hf => ?_) ?_
  · go_simp
    exact ((HR.out ▸ r9_num (n : Int) (by omega) (by omega) _)).mono fun e w' ⟨he, hw⟩ => ⟨_, he, rg_done hE hw (rfl)⟩
  simp only [Act.put, List.setIfInBounds_toArray, List.set_cons_zero, List.set_cons_succ]
  refine rg_quiet rfl rfl rfl rfl ?_; intro K hK; go_big_quiet_op; go_big_quiet_on
  refine rel_tail rfl rfl fun w2 hE2 _ => ?_
  clear c0 c1 c2
  have hb2 := hbx.ext hE2
  have hEw := hE0.trans hE2
  have c2 : w2.cell? ⟨w.heap.size, 2, none⟩ = some (.slice au n cu) := hb2.cell 2
  go_wp2_with fail
  go_loopw [3, 4] (fun s i wr => ∃ (j : Nat) (S : ByteArray), j ≤ n ∧ i = .int .i64 (j : Int) ∧ s = .string S ∧ Ext w2 wr ∧ Hid (S = str (B3 ++ ((ps.map (·.1)).take j).flatMap rowP))) (fun _ i _ => n - (intOf i).toNat)
  case atStart => exact ⟨0, _, Nat.zero_le _, rfl, rfl, Ext.refl w2, Lib.hid (by rw [List.take_zero, List.flatMap_nil, List.append_nil]; exact HB3.out)⟩
  case round =>
    obtain ⟨j, S, hjn, rfl, rfl, hE, HS⟩ := hrel
    have hEa := hEw.trans hE
    have htl : (((ps.map (·.1)).take j).flatMap rowP).length ≤ 300000000 := by
      have h1 := flat_le (f := rowP) (n := 300000) (l := (ps.map (·.1)).take j) (fun c hc => rowP_le (HK.out c (List.mem_of_mem_take hc)))
      have h2 : ((ps.map (·.1)).take j).length ≤ 1000 := by rw [List.length_take, List.length_map]; have := HN.out; omega
      have := Nat.mul_le_mul_right 300000 h2
      omega
    have hSl : S.size ≤ 300001027 := by rw [HS.out, str_size, List.length_append]; omega
    have c2 : wr.cell? ⟨w.heap.size, 2, none⟩ = some (.slice au n cu) := (hb2.ext hE).cell 2
    clear htl
    by_cases hlt : j < n
    · have hkc : j < ps.length := by rw [← HN.out]; exact hlt
      obtain ⟨b, o, rfl, hco⟩ := HG.out j hkc
      have hok := HK.out _ (List.mem_map_of_mem (f := (·.1)) (List.getElem_mem hkc))
      have hcol := hcols.out _ (List.getElem_mem hkc)
      obtain ⟨M, hM⟩ : ∃ M, M = ps[j] := ⟨_, rfl⟩
      rw [← hM] at hco hok hcol
      have HTK := Lib.hid (flat_take (f := rowP) (show (ps.map (·.1)).drop j = M.1 :: (ps.map (·.1)).drop (j + 1) by rw [hM, ← List.map_drop, List.drop_eq_getElem_cons hkc, List.map_cons, List.map_drop]))
      clear hM
      obtain ⟨r, mu⟩ := M
      simp only at hco hok hcol HTK
      have hcolw := hcol
      obtain ⟨ac, cc, rfl, hcc, hccm, hcg⟩ := hcol.get
      have HCG := Lib.hid hcg
      replace hco := hco.ext hEa
      obtain ⟨g0, g1, g2, g3, g4, g5, g6, g7⟩ := hco
      obtain ⟨o1, o2, o3, o4, o5, o6, o7, o8⟩ := hok
      have HO := Lib.hid o8
      obtain ⟨key, live, gone, shade, cols⟩ := r
      obtain ⟨val, dead, at_, fin⟩ := live
      simp only at o1 o2 o3 o4 o5 o6 o7 HO g0 g1 g2 g3 g4 g5 g6 g7 hcc HCG HTK
      obtain ⟨T1, hT1⟩ : ∃ T, T = txT key := ⟨_, rfl⟩
      obtain ⟨C1, hC1⟩ : ∃ T, T = str (cellP ⟨val, dead, at_, fin⟩) := ⟨_, rfl⟩
      obtain ⟨G1, hG1⟩ : ∃ T, T = str (num gone.toNat) := ⟨_, rfl⟩
      obtain ⟨D1, hD1⟩ : ∃ T, T = str (num shade.toNat) := ⟨_, rfl⟩
      obtain ⟨K1, hK1⟩ : ∃ T, T = str (num cols.length) := ⟨_, rfl⟩
      have zT : T1.size ≤ 1009 := by rw [hT1]; have := txT_size key (by omega); omega
      have zC : C1.size ≤ 1028 := by rw [hC1, str_size]; exact cellP_le o2
      have zG : G1.size ≤ 9 := by rw [hG1, str_size]; exact num_length (by omega)
      have zD : D1.size ≤ 9 := by rw [hD1, str_size]; exact num_length (by omega)
      have zK : K1.size ≤ 9 := by rw [hK1, str_size]; exact num_length (by omega)
      have q1 : ¬ 9223372036854775807 < S.size + T1.size := by omega
      have q2 : ¬ 9223372036854775807 < S.size + T1.size + C1.size := by omega
      have q3 : ¬ 9223372036854775807 < S.size + T1.size + C1.size + G1.size := by omega
      have q4 : ¬ 9223372036854775807 < S.size + T1.size + C1.size + G1.size + D1.size := by omega
      have q5 : ¬ 9223372036854775807 < S.size + T1.size + C1.size + G1.size + D1.size + K1.size := by omega
      obtain ⟨S1, hS1⟩ : ∃ X, X = S ++ T1 ++ C1 ++ G1 ++ D1 ++ K1 := ⟨_, rfl⟩
      have zS1 : S1.size ≤ 300003100 := by rw [hS1]; simp only [ByteArray.size_append]; omega
      have HS1 := Lib.hid hS1
      obtain ⟨Y, hY⟩ : ∃ Y, Y = B3 ++ ((ps.map (·.1)).take j).flatMap rowP := ⟨_, rfl⟩
      have HSY : Hid (S1 = str (Y ++ (num key.size ++ key.data.toList ++ cellP ⟨val, dead, at_, fin⟩ ++ num gone.toNat ++ num shade.toNat ++ num cols.length))) := Lib.hid (by
        rw [hS1, HS.out, hT1, hC1, hG1, hD1, hK1, hY]
        unfold txT
        simp only [str_app, List.append_assoc])
      have HR1 : Hid (B3 ++ ((ps.map (·.1)).take (j + 1)).flatMap rowP = Y ++ (num key.size ++ key.data.toList ++ cellP ⟨val, dead, at_, fin⟩ ++ num gone.toNat ++ num shade.toNat ++ num cols.length) ++ cols.flatMap colP) := Lib.hid (by
        rw [HTK.out, hY]
        unfold rowP
        simp only [List.append_assoc])
      have HT1 := Lib.hid hT1
      have HC1 := Lib.hid hC1
      have HG1 := Lib.hid hG1
      have HD1 := Lib.hid hD1
      have HK1 := Lib.hid hK1
      obtain ⟨m, hm⟩ : ∃ m, m = cols.length := ⟨_, rfl⟩
      rw [← hm] at hcc o7 HK1 g7
      have HM := Lib.hid hm
      have HOC := Lib.hid o2
      clear hT1 hC1 hG1 hD1 hK1 hS1 hY o8 hcg zT zC zG zD zK hm o2 hcol hcolw HTK
      go_wp2_with ((guard_target =~ wpList _ _ _ (Oper.mk none (Op.store _ (Operand.tmp 5) (Operand.tmp 30)) _ _ _ _ :: _) _ _); go_must (refine storeBox rfl 91 (.tmp 5) (.tmp 30) rfl (wr.heap.size) _ _ _ (by rfl) (by rfl) ((BoxAt.made wr (ro8 ⟨⟨#[]⟩, zeroCl, 0, 0, []⟩ (.slice none 0 0)) 91)) (by kernel_rfl) (by rfl) (by simp [Value.oneCell']) ?_); intro w3 d3 g3')
      have hE3 : Ext wr w3 := (((Ext.refl wr).alloc _).grown g3' (fun q hq => by cases hq; exact Nat.le_refl _))
      simp only [Act.put]
      refine wp_region_tab 22 [(3, fun v _ => v = .string T1), (7, fun v _ => v = .string C1), (11, fun v _ => v = .string G1), (15, fun v _ => v = .string D1), (20, fun v _ => v = .string K1)] (by kernel_rfl) (by kernel_rfl) (by kernel_rfl) ⟨stays_eq _, stays_eq _, stays_eq _, stays_eq _, stays_eq _, trivial⟩ ?_
      have e0 := held (show w3.cell? ⟨wr.heap.size, 0, none⟩ = some (.string key) from d3.cell 0)
      have e1 := held (show w3.cell? ⟨wr.heap.size, 1, none⟩ = some (.string val) from d3.cell 1)
      have e2 := held (show w3.cell? ⟨wr.heap.size, 2, none⟩ = some (.bool dead) from d3.cell 2)
      have e3 := held (show w3.cell? ⟨wr.heap.size, 3, none⟩ = some (.int .i64 at_) from d3.cell 3)
      have e4 := held (show w3.cell? ⟨wr.heap.size, 4, none⟩ = some (.int .i64 fin) from d3.cell 4)
      have e5 := held (show w3.cell? ⟨wr.heap.size, 5, none⟩ = some (.int .i64 gone) from d3.cell 5)
      have e6 := held (show w3.cell? ⟨wr.heap.size, 6, none⟩ = some (.int .i64 shade) from d3.cell 6)
      have e7 := held (show w3.cell? ⟨wr.heap.size, 7, none⟩ = some (.slice ac m cc) from d3.cell 7)
      refine rg_quiet rfl rfl rfl rfl ?_; intro K hK; go_big_quiet_op; go_big_quiet_on
      refine rg_quiet rfl rfl rfl rfl ?_; intro K hK; go_big_quiet_op; go_big_quiet_on
      refine rg_quiet rfl rfl rfl rfl ?_; intro K hK; go_big_quiet_op; go_big_quiet_on
      refine rg_val [] rfl rfl rfl (by kernel_rfl) (fun w1 hE hf => ?_) ?_
      · go_simp
        exact ((HT1.out ▸ r9_text key (by omega) _)).mono fun e w' ⟨he, hw⟩ => ⟨_, he, rg_done hE hw (rfl)⟩
      simp only [Act.put, List.setIfInBounds_toArray, List.set_cons_zero, List.set_cons_succ]
      refine rg_quiet rfl rfl rfl rfl ?_; intro K hK; go_big_quiet_op; go_big_quiet_on
      refine rg_quiet rfl rfl rfl rfl ?_; intro K hK; go_big_quiet_op; go_big_quiet_on
      refine rg_quiet rfl rfl rfl rfl ?_; intro K hK; go_big_quiet_op; go_big_quiet_on
      refine rg_val [] rfl rfl rfl (by kernel_rfl) (fun w1 hE hf => ?_) ?_
      · go_simp
        exact ((HC1.out ▸ r9_cell ⟨val, dead, at_, fin⟩ HOC.out _)).mono fun e w' ⟨he, hw⟩ => ⟨_, he, rg_done hE hw (rfl)⟩
      simp only [Act.put, List.setIfInBounds_toArray, List.set_cons_zero, List.set_cons_succ]
      refine rg_quiet rfl rfl rfl rfl ?_; intro K hK; go_big_quiet_op; go_big_quiet_on
      refine rg_quiet rfl rfl rfl rfl ?_; intro K hK; go_big_quiet_op; go_big_quiet_on
      refine rg_quiet rfl rfl rfl rfl ?_; intro K hK; go_big_quiet_op; go_big_quiet_on
      refine rg_val [] rfl rfl rfl (by kernel_rfl) (fun w1 hE hf => ?_) ?_
      · go_simp
        exact ((HG1.out ▸ r9_num gone (by omega) (by omega) _)).mono fun e w' ⟨he, hw⟩ => ⟨_, he, rg_done hE hw (rfl)⟩
      simp only [Act.put, List.setIfInBounds_toArray, List.set_cons_zero, List.set_cons_succ]
      refine rg_quiet rfl rfl rfl rfl ?_; intro K hK; go_big_quiet_op; go_big_quiet_on
      refine rg_quiet rfl rfl rfl rfl ?_; intro K hK; go_big_quiet_op; go_big_quiet_on
      refine rg_quiet rfl rfl rfl rfl ?_; intro K hK; go_big_quiet_op; go_big_quiet_on
      refine rg_val [] rfl rfl rfl (by kernel_rfl) (fun w1 hE hf => ?_) ?_
      · go_simp
        exact ((HD1.out ▸ r9_num shade (by omega) (by omega) _)).mono fun e w' ⟨he, hw⟩ => ⟨_, he, rg_done hE hw (rfl)⟩
      simp only [Act.put, List.setIfInBounds_toArray, List.set_cons_zero, List.set_cons_succ]
      refine rg_quiet rfl rfl rfl rfl ?_; intro K hK; go_big_quiet_op; go_big_quiet_on
      refine rg_quiet rfl rfl rfl rfl ?_; intro K hK; go_big_quiet_op; go_big_quiet_on
      refine rg_quiet rfl rfl rfl rfl ?_; intro K hK; go_big_quiet_op; go_big_quiet_on
      refine rg_quiet rfl rfl rfl rfl ?_; intro K hK; go_big_quiet_op; go_big_quiet_on
      refine rg_val [] rfl rfl rfl (by kernel_rfl) (fun w1 hE hf => ?_) ?_
      · go_simp
        exact ((HK1.out ▸ r9_num (m : Int) (by omega) (by omega) _)).mono fun e w' ⟨he, hw⟩ => ⟨_, he, rg_done hE hw (rfl)⟩
      simp only [Act.put, List.setIfInBounds_toArray, List.set_cons_zero, List.set_cons_succ]
      refine rg_quiet rfl rfl rfl rfl ?_; intro K hK; go_big_quiet_op; go_big_quiet_on
      refine rel_tail rfl rfl fun w4 hE4 _ => ?_
      clear e0 e1 e2 e3 e4 e5 e6 e7 q1 q2 q3 q4 q5
      have d4 := d3.ext hE4
      have hE34 := hE3.trans hE4
      have hEa4 := hEa.trans hE34
      go_wp2_with fail
      rw [← HS1.out]
      obtain ⟨HD, hHD⟩ : ∃ X, X = num key.size ++ key.data.toList ++ cellP ⟨val, dead, at_, fin⟩ ++ num gone.toNat ++ num shade.toNat ++ num cols.length := ⟨_, rfl⟩
      rw [← hHD] at HSY HR1
      clear hHD
      obtain ⟨wo, rfl⟩ : ∃ w', w' = wr := ⟨_, rfl⟩
      go_loopw [3, 6] (fun s i wr => ∃ (q : Nat) (Z : ByteArray), q ≤ m ∧ i = .int .i64 (q : Int) ∧ s = .string Z ∧ Ext w4 wr ∧ Z.size ≤ 300003100 + q * 2037 ∧ Hid (Z = str (Y ++ HD ++ (cols.take q).flatMap colP))) (fun _ i _ => m - (intOf i).toNat)
      case atStart => exact ⟨0, _, Nat.zero_le _, rfl, rfl, Ext.refl w4, by omega, Lib.hid (by rw [List.take_zero, List.flatMap_nil, List.append_nil]; exact HSY.out)⟩
      case round =>
        obtain ⟨q, Z, hqm, rfl, rfl, hE5, hZ, HZ⟩ := hrel
        have d5 := d4.ext hE5
        have e7 : wr.cell? ⟨wo.heap.size, 7, none⟩ = some (.slice ac m cc) := d5.cell 7
        by_cases hlq : q < m
        · have hqc : q < cols.length := by rw [← HM.out]; exact hlq
          obtain ⟨bc, oc, rfl, hcc5⟩ := HCG.out q hqc
          have hoc := HO.out _ (List.getElem_mem hqc)
          obtain ⟨c, hc⟩ : ∃ c, c = cols[q] := ⟨_, rfl⟩
          rw [← hc] at hcc5 hoc
          have HTQ := Lib.hid (flat_take (f := colP) (show cols.drop q = c :: cols.drop (q + 1) by rw [hc]; exact List.drop_eq_getElem_cons hqc))
          clear hc
          replace hcc5 := hcc5.ext ((hEa.trans hE34).trans hE5)
          obtain ⟨y0, y1, y2, y3, y4⟩ := hcc5
          obtain ⟨p1, p2⟩ := hoc
          obtain ⟨name, mval, mdead, mat, mfin⟩ := c
          simp only at y0 y1 y2 y3 y4 p1 p2
          have HP2 := Lib.hid p2
          obtain ⟨T2, hT2⟩ : ∃ T, T = txT name := ⟨_, rfl⟩
          obtain ⟨C2, hC2⟩ : ∃ T, T = str (cellP ⟨mval, mdead, mat, mfin⟩) := ⟨_, rfl⟩
          have zT : T2.size ≤ 1009 := by rw [hT2]; have := txT_size name (by omega); omega
          have zC : C2.size ≤ 1028 := by rw [hC2, str_size]; exact cellP_le p2
          have q1 : ¬ 9223372036854775807 < Z.size + T2.size := by omega
          have q2 : ¬ 9223372036854775807 < Z.size + T2.size + C2.size := by omega
          have t1 : decide ((q : Int) < (m : Int)) = true := by simp; omega
          have HT2 := Lib.hid hT2
          have HC2 := Lib.hid hC2
          clear hT2 hC2 p2
          replace y0 := held y0
          replace y1 := held y1
          replace y2 := held y2
          replace y3 := held y3
          replace y4 := held y4
          have e7' := held e7
          go_wp2_with fail
          refine wp_region_tab 17 [(7, fun v _ => v = .string T2), (15, fun v _ => v = .string C2)] (by kernel_rfl) (by kernel_rfl) (by kernel_rfl) ⟨stays_eq _, stays_eq _, trivial⟩ ?_
          refine rg_quiet rfl rfl rfl rfl ?_; intro K hK; go_big_quiet_op; go_big_quiet_on
          refine rg_quiet rfl rfl rfl rfl ?_; intro K hK; go_big_quiet_op; go_big_quiet_on
          refine rg_quiet rfl rfl rfl rfl ?_; intro K hK; go_big_quiet_op; go_big_quiet_on
          refine rg_quiet rfl rfl rfl rfl ?_; intro K hK; go_big_quiet_op; go_big_quiet_on
          refine rg_quiet rfl rfl rfl rfl ?_; intro K hK; go_big_quiet_op; go_big_quiet_on
          refine rg_quiet rfl rfl rfl rfl ?_; intro K hK; go_big_quiet_op; go_big_quiet_on
          refine rg_quiet rfl rfl rfl rfl ?_; intro K hK; go_big_quiet_op; go_big_quiet_on
          refine rg_val [] rfl rfl rfl (by kernel_rfl) (fun w1 hE hf => ?_) ?_
          · go_simp
            exact ((HT2.out ▸ r9_text name (by omega) _)).mono fun e w' ⟨he, hw⟩ => ⟨_, he, rg_done hE hw (rfl)⟩
          simp only [Act.put, List.setIfInBounds_toArray, List.set_cons_zero, List.set_cons_succ]
          refine rg_quiet rfl rfl rfl rfl ?_; intro K hK; go_big_quiet_op; go_big_quiet_on
          refine rg_quiet rfl rfl rfl rfl ?_; intro K hK; go_big_quiet_op; go_big_quiet_on
          refine rg_quiet rfl rfl rfl rfl ?_; intro K hK; go_big_quiet_op; go_big_quiet_on
          refine rg_quiet rfl rfl rfl rfl ?_; intro K hK; go_big_quiet_op; go_big_quiet_on
          refine rg_quiet rfl rfl rfl rfl ?_; intro K hK; go_big_quiet_op; go_big_quiet_on
          refine rg_quiet rfl rfl rfl rfl ?_; intro K hK; go_big_quiet_op; go_big_quiet_on
          refine rg_quiet rfl rfl rfl rfl ?_; intro K hK; go_big_quiet_op; go_big_quiet_on
          refine rg_val [] rfl rfl rfl (by kernel_rfl) (fun w1 hE hf => ?_) ?_
          · go_simp
            exact ((HC2.out ▸ r9_cell ⟨mval, mdead, mat, mfin⟩ HP2.out _)).mono fun e w' ⟨he, hw⟩ => ⟨_, he, rg_done hE hw (rfl)⟩
          simp only [Act.put, List.setIfInBounds_toArray, List.set_cons_zero, List.set_cons_succ]
          refine rg_quiet rfl rfl rfl rfl ?_; intro K hK; go_big_quiet_op; go_big_quiet_on
          refine rel_tail rfl rfl fun w6 hE6 _ => ?_
          clear y0 y1 y2 y3 y4 e7'
          go_wp2_with fail
          go_roundw
          case rel => exact ⟨q + 1, _, hlq, by go_num, rfl, hE5.trans hE6, by simp only [ByteArray.size_append]; omega, Lib.hid (by
            rw [HTQ.out, HZ.out, HT2.out, HC2.out]
            unfold colP txT
            simp only [str_app, List.append_assoc])⟩
          case measure => simp [intOf]; omega
        · obtain rfl : q = m := by omega
          have HF : Hid (Z = str (B3 ++ ((ps.map (·.1)).take (j + 1)).flatMap rowP)) := Lib.hid (by rw [HR1.out, HZ.out, List.take_of_length_le (by rw [HM.out]; exact Nat.le_refl _)])
          go_wp2_with fail
          go_roundw
          case rel => exact ⟨j + 1, _, by omega, by go_num, rfl, (hE.trans hE34).trans hE5, HF⟩
          case measure => simp [intOf]; omega
    · obtain rfl : j = n := by omega
      have HF : Hid (S = str (B3 ++ (ps.map (·.1)).flatMap rowP)) := Lib.hid (by rw [HS.out, List.take_of_length_le (by rw [List.length_map, HN.out]; exact Nat.le_refl _)])
      go_wp2_with fail
      go_ret
      exact ⟨ret_str HF.out, hEa⟩
end Go.Proofs.YtcmgeccgahakbaaDoor

/- The reference of chapter 9: Part. -/
namespace Go.Proofs.YtcmgeccgahakbaaDoor
open Go Go.RowKit
attribute [local go_sem] yields yUpon

set_option maxRecDepth 100000 in
set_option maxHeartbeats 2000000 in
theorem r9_part (k : ByteArray) (g : Int) (u : Value) (ps : List (Ro × Value)) (w : World) (hin : RowsIn w u ps) (hlow : ∀ p ∈ ps, ∀ c ∈ p.1.cols, c.name.size ≤ 1000000) :
    Calls Tryd.prog 14 #[.agg #[.string k, .int .i64 g, u]] w fun e w' => e = .returned (.tuple #[.string (str (partR k g (ps.map (·.1))).1), .int .i64 (partR k g (ps.map (·.1))).2]) ∧ Ext w w' := by
  have hE0 := (Ext.refl w).alloc (.cells #[.string k, .int .i64 g, u] 24)
  have hbx := BoxAt.made w #[.string k, .int .i64 g, u] 24
  have hin0 := hin.ext hE0
  obtain ⟨au, cu, rfl, _⟩ := hin.get
  have y0 : (w.alloc (.cells #[.string k, .int .i64 g, .slice au ps.length cu] 24)).cell? ⟨w.heap.size, 0, none⟩ = some (.string k) := hbx.cell 0
  have y1 : (w.alloc (.cells #[.string k, .int .i64 g, .slice au ps.length cu] 24)).cell? ⟨w.heap.size, 1, none⟩ = some (.int .i64 g) := hbx.cell 1
  have y2 : (w.alloc (.cells #[.string k, .int .i64 g, .slice au ps.length cu] 24)).cell? ⟨w.heap.size, 2, none⟩ = some (.slice au ps.length cu) := hbx.cell 2
  cases hq : ptB k g (ps.map (·.1))
  · have e : Hid (partR k g (ps.map (·.1)) = ([], 1)) := Lib.hid (by unfold partR; rw [hq]; rfl)
    rw [e.out]
    have HQ := Lib.hid hq
    clear hq e
    go_enter Tryd.func14, Tryd.ntmps14
    go_wp2_with (go_at_call 50; go_must (refine (check8_any k g _ ps _ hin0 hlow).mono ?_); rintro e w1 ⟨rfl, hE1⟩; rw [HQ.out])
    go_ret2
    exact ⟨rfl, hE0.trans hE1⟩
  · have hok := ptB_ok hq
    have hwl := wholeP_le hok
    have HQ := Lib.hid hq
    have HO := Lib.hid hok
    obtain ⟨S, hS⟩ : ∃ S, S = str (wholeP k g (ps.map (·.1))) := ⟨_, rfl⟩
    have hSz : S.size = (wholeP k g (ps.map (·.1))).length := by rw [hS, str_size]
    have HS := Lib.hid hS
    by_cases hlen : (wholeP k g (ps.map (·.1))).length ≤ 262144
    · have e : Hid (partR k g (ps.map (·.1)) = (wholeP k g (ps.map (·.1)), 0)) := Lib.hid (by unfold partR; rw [hq, if_pos hlen]; rfl)
      rw [e.out]
      simp only
      rw [← hS]
      have hlt : ¬ (262144 : Int) < (S.size : Int) := by omega
      clear hq e hlen hwl hok hS hSz
      go_enter Tryd.func14, Tryd.ntmps14
      go_wp2_with (first
        | (go_at_call 50; go_must (refine (check8_any k g _ ps _ hin0 hlow).mono ?_); rintro e w1 ⟨rfl, hE1⟩; rw [HQ.out]; have hb1 := hbx.ext hE1; have c0 : w1.cell? ⟨w.heap.size, 0, none⟩ = some (.string k) := hb1.cell 0; have c1 : w1.cell? ⟨w.heap.size, 1, none⟩ = some (.int .i64 g) := hb1.cell 1; have c2 : w1.cell? ⟨w.heap.size, 2, none⟩ = some (.slice au ps.length cu) := hb1.cell 2)
        | (go_at_call 57; go_must (refine (r9_bytes k g _ ps HO.out _ (hin0.ext hE1)).mono ?_); rintro e w2 ⟨rfl, hE2⟩; rw [← HS.out]))
      go_ret2
      exact ⟨rfl, (hE0.trans hE1).trans hE2⟩
    · have e : Hid (partR k g (ps.map (·.1)) = ([], 2)) := Lib.hid (by unfold partR; rw [hq, if_neg hlen]; rfl)
      rw [e.out]
      have hlt : decide ((262144 : Int) < (S.size : Int)) = true := by simp; omega
      clear hq e hlen hwl hok hS hSz
      go_enter Tryd.func14, Tryd.ntmps14
      go_wp2_with (first
        | (go_at_call 50; go_must (refine (check8_any k g _ ps _ hin0 hlow).mono ?_); rintro e w1 ⟨rfl, hE1⟩; rw [HQ.out]; have hb1 := hbx.ext hE1; have c0 : w1.cell? ⟨w.heap.size, 0, none⟩ = some (.string k) := hb1.cell 0; have c1 : w1.cell? ⟨w.heap.size, 1, none⟩ = some (.int .i64 g) := hb1.cell 1; have c2 : w1.cell? ⟨w.heap.size, 2, none⟩ = some (.slice au ps.length cu) := hb1.cell 2)
        | (go_at_call 57; go_must (refine (r9_bytes k g _ ps HO.out _ (hin0.ext hE1)).mono ?_); rintro e w2 ⟨rfl, hE2⟩; rw [← HS.out]))
      go_ret2
      exact ⟨rfl, (hE0.trans hE1).trans hE2⟩
end Go.Proofs.YtcmgeccgahakbaaDoor

/- The reference of chapter 9: CheckMuts, CheckBatch. -/
namespace Go.Proofs.YtcmgeccgahakbaaDoor
open Go Go.RowKit
attribute [local go_sem] yields yUpon

set_option maxRecDepth 100000 in
set_option maxHeartbeats 8000000 in
theorem r9_checkmuts (vm : Value) (M : List Mt) (w : World) (hM : MtsIn w vm M) (hMb : ∀ x ∈ M, x.table.size ≤ 1000000 ∧ ∀ p ∈ x.pa.ps, ∀ c ∈ p.1.cols, c.name.size ≤ 1000000) :
    Calls Tryd.prog 86 #[vm, .int .i64 64] w fun e w' => e = .returned (.bool (M.all okMt && decide (M.length ≤ 64))) ∧ Ext w w' := by
  obtain ⟨am, cm, rfl, hcm, hcmm, hgm⟩ := hM.get
  have HGM := Lib.hid hgm
  have HMB := Lib.hid hMb
  have HROW := Lib.hid hM.rows
  clear hgm hMb hM
  obtain ⟨mn, hmn⟩ : ∃ n, n = M.length := ⟨_, rfl⟩
  rw [← hmn] at hcm ⊢
  have HMN := Lib.hid hmn
  clear hmn
  obtain ⟨R, hR⟩ : ∃ R, R = (M.all okMt && decide (mn ≤ 64)) := ⟨_, rfl⟩
  rw [← hR]
  have HR := Lib.hid hR
  clear hR
  go_enter Tryd.func86, Tryd.ntmps86
  go_wp2
  go_loopw [5] (fun i wr => ∃ k : Nat, k ≤ mn ∧ i = .int .i64 (k : Int) ∧ Hid ((M.take k).all okMt = true) ∧ Ext w wr) (fun i _ => mn - (intOf i).toNat)
  case atStart => exact ⟨0, Nat.zero_le _, rfl, Lib.hid rfl, Ext.refl w⟩
  case round =>
    obtain ⟨k, hk, rfl, HP, hE⟩ := hrel
    by_cases hlt : k < mn
    · have hkF : k < M.length := by rw [← HMN.out]; exact hlt
      obtain ⟨b, o, rfl, ⟨g0, g1, g2, g3⟩⟩ := HGM.out k hkF
      obtain ⟨ra, rc, hrv⟩ : ∃ a c, (M[k]).pa.rv = .slice a (M[k]).pa.ps.length c := let ⟨a, c, e, _⟩ := (HROW.out _ (List.getElem_mem hkF)).get; ⟨a, c, e⟩
      have hrw := HROW.out _ (List.getElem_mem hkF)
      rw [hrv] at g3 hrw
      replace g0 := hE.cell g0
      replace g1 := hE.cell g1
      replace g2 := hE.cell g2
      replace g3 := hE.cell g3
      obtain ⟨q1, q2⟩ := HMB.out _ (List.getElem_mem hkF)
      have HP1 : Hid (okMt M[k] = true → (M.take (k + 1)).all okMt = true) := Lib.hid fun h => all_take hkF HP.out h
      have HP0 : Hid (okMt M[k] = false → R = false) := Lib.hid fun h => by rw [HR.out, all_no hkF h]; rfl
      have HOK : Hid (okMt M[k] = (nameB (M[k]).table && ptB (M[k]).pa.key (M[k]).pa.gone ((M[k]).pa.ps.map (·.1)))) := Lib.hid rfl
      obtain ⟨ok, hok⟩ : ∃ ok, ok = okMt M[k] := ⟨_, rfl⟩
      obtain ⟨t, ht⟩ : ∃ t, t = (M[k]).table := ⟨_, rfl⟩
      obtain ⟨ky, hky⟩ : ∃ t, t = (M[k]).pa.key := ⟨_, rfl⟩
      obtain ⟨gn, hgn⟩ : ∃ t, t = (M[k]).pa.gone := ⟨_, rfl⟩
      obtain ⟨ps, hps⟩ : ∃ t, t = (M[k]).pa.ps := ⟨_, rfl⟩
      rw [← hok] at HP1 HP0 HOK
      rw [← ht] at g0 q1 HOK
      rw [← hky] at g1 HOK
      rw [← hgn] at g2 HOK
      rw [← hps] at g3 hrw q2 HOK
      obtain ⟨rn, hrn⟩ : ∃ n, n = ps.length := ⟨_, rfl⟩
      rw [← hrn] at g3 hrw
      have HQ2 := Lib.hid q2
      clear hok ht hky hgn hps hrv hrn q2
      have t1 : decide ((k : Int) < (mn : Int)) = true := by simp; omega
      cases hn : nameB t
      · have HN := Lib.hid hn
        clear hn
        go_wp2_with (go_at_call 125; go_must (refine (rname_any t (by omega) _).mono ?_); rintro e w5 ⟨rfl, hE5⟩; rw [HN.out])
        go_ret
        exact ⟨by rw [HP0.out (by rw [HOK.out, HN.out]; rfl)]; rfl, hE.trans hE5⟩
      · have HN := Lib.hid hn
        clear hn
        cases hg : ptB ky gn (ps.map (·.1))
        all_goals
          have HG := Lib.hid hg
          clear hg
          go_wp2_with (first
            | (go_at_call 125; go_must (refine (rname_any t (by omega) _).mono ?_); rintro e w5 ⟨rfl, hE5⟩; rw [HN.out]; have z1 := hE5.cell g1; have z2 := hE5.cell g2; have z3 := hE5.cell g3)
            | (go_at_call 50; go_must (refine (check8_any ky gn _ ps _ (hrw.ext (hE.trans hE5)) HQ2.out).mono ?_); rintro e w6 ⟨rfl, hE6⟩; rw [HG.out]))
        · go_ret
          exact ⟨by rw [HP0.out (by rw [HOK.out, HN.out, HG.out]; rfl)]; rfl, (hE.trans hE5).trans hE6⟩
        · go_roundw
          case rel => exact ⟨k + 1, by omega, by go_num, Lib.hid (HP1.out (by rw [HOK.out, HN.out, HG.out]; rfl)), (hE.trans hE5).trans hE6⟩
          case measure => simp [intOf]; omega
    · obtain rfl : k = mn := by omega
      have HR3 : Hid (R = decide (k ≤ 64)) := Lib.hid (by
        have h1 := HP.out
        rw [HMN.out, List.take_length] at h1
        rw [HR.out, h1]; rfl)
      by_cases h64 : k ≤ 64
      · have t2 : decide ((k : Int) ≤ 64) = true := by simp; omega
        go_wp2_with fail
        go_ret
        exact ⟨by rw [HR3.out, decide_eq_true h64]; rfl, hE⟩
      · have t2 : decide ((k : Int) ≤ 64) = false := by simp; omega
        go_wp2_with fail
        go_ret
        exact ⟨by rw [HR3.out, decide_eq_false h64]; rfl, hE⟩

set_option maxRecDepth 100000 in
set_option maxHeartbeats 8000000 in
theorem r9_checkbatch (vm va vd : Value) (M : List Mt) (A : List Nt) (D : List Int) (w : World) (hM : MtsIn w vm M) (hA : NtsIn w va A) (hD : IntsIn w vd .i64 D) (hMb : ∀ x ∈ M, x.table.size ≤ 1000000 ∧ ∀ p ∈ x.pa.ps, ∀ c ∈ p.1.cols, c.name.size ≤ 1000000) :
    Calls Tryd.prog 25 #[.agg #[vm, va, vd]] w fun e w' => e = .returned (.bool (cbG M A D)) ∧ Ext w w' := by
  have hE0 := (Ext.refl w).alloc (.cells #[vm, va, vd] 29)
  have k1 := r9_checkmuts vm M _ (hM.ext hE0) hMb
  obtain ⟨am, cm, rfl, hcm, hcmm, hgm⟩ := hM.get
  obtain ⟨aa, ca, rfl, hca, hcma, hga⟩ := hA.get
  obtain ⟨ad, cd, rfl, hcd, hcmd, _, hgd⟩ := hD
  unfold maxLen at hcmd
  have HGA := Lib.hid hga
  have HGD := Lib.hid hgd
  clear hgm hga hgd hMb hM hA
  obtain ⟨mo, hmo⟩ : ∃ b, b = M.all okMt := ⟨_, rfl⟩
  rw [← hmo] at k1
  obtain ⟨mn, hmn⟩ : ∃ n, n = M.length := ⟨_, rfl⟩
  obtain ⟨an, han⟩ : ∃ n, n = A.length := ⟨_, rfl⟩
  obtain ⟨dn, hdn⟩ : ∃ n, n = D.length := ⟨_, rfl⟩
  rw [← hmn] at hE0 hcm k1 ⊢
  rw [← han] at hE0 hca k1 ⊢
  rw [← hdn] at hE0 hcd k1 ⊢
  have HMN := Lib.hid hmn
  have HAN := Lib.hid han
  have HDN := Lib.hid hdn
  have hbx := BoxAt.made w #[.slice am mn cm, .slice aa an ca, .slice ad dn cd] 29
  obtain ⟨R, hR⟩ : ∃ R, R = cbG M A D := ⟨_, rfl⟩
  have HR : Hid (R = (decide (mn ≤ 64) && decide (an ≤ 300) && decide (dn ≤ 300) && mo && A.all okNt && D.all idB)) := Lib.hid (by rw [hR, hmn, han, hdn, hmo]; rfl)
  rw [← hR]
  have K1 := Lib.hid k1
  clear hR k1 hmn han hdn hmo
  by_cases hsz : (mo && decide (mn ≤ 64)) = true ∧ an ≤ 300 ∧ dn ≤ 300
  · obtain ⟨z1, z2, z3⟩ := hsz
    have y2 : ¬ (300 : Int) < (an : Int) := by omega
    have y3 : ¬ (300 : Int) < (dn : Int) := by omega
    have HR3 : Hid (R = (A.all okNt && D.all idB)) := Lib.hid (by
      have z4 : mo = true := by cases mo; simp at z1; rfl
      rw [z4, Bool.true_and] at z1
      rw [HR.out, z4, z1, decide_eq_true z2, decide_eq_true z3]; rfl)
    have Z1 := Lib.hid z1
    clear HR z1
    go_enter Tryd.func25, Tryd.ntmps25
    go_wp2_with (go_at_call 86; go_must (refine K1.out.mono ?_); rintro e w1 ⟨rfl, hE1⟩; rw [Z1.out]; have hbx1 := hbx.ext hE1; have c1 : w1.cell? ⟨w.heap.size, 1, none⟩ = some (.slice aa an ca) := hbx1.cell 1; have c2 : w1.cell? ⟨w.heap.size, 2, none⟩ = some (.slice ad dn cd) := hbx1.cell 2)
    have hX := hE0.trans hE1
    go_loopw [3] (fun i wr => ∃ k : Nat, k ≤ an ∧ i = .int .i64 (k : Int) ∧ Hid ((A.take k).all okNt = true) ∧ wr = w1) (fun i _ => an - (intOf i).toNat)
    case atStart => exact ⟨0, Nat.zero_le _, rfl, Lib.hid rfl, rfl⟩
    case round =>
      obtain ⟨j, hj, rfl, HP, rfl⟩ := hrel
      by_cases hlt2 : j < an
      · have hkF : j < A.length := by rw [← HAN.out]; exact hlt2
        obtain ⟨b, o, rfl, g0, g1⟩ := HGA.out j hkF
        replace g0 := hX.cell g0
        replace g1 := hX.cell g1
        have HP1 : Hid (okNt A[j] = true → (A.take (j + 1)).all okNt = true) := Lib.hid fun h => all_take hkF HP.out h
        have HP0 : Hid (okNt A[j] = false → R = false) := Lib.hid fun h => by rw [HR3.out, all_no hkF h]; rfl
        have HOK : Hid (okNt A[j] = (decide (1 ≤ (A[j]).id) && decide ((A[j]).id ≤ 1099511627776) && decide ((A[j]).body.size ≤ 4096))) := Lib.hid rfl
        obtain ⟨ok, hok⟩ : ∃ ok, ok = okNt A[j] := ⟨_, rfl⟩
        obtain ⟨x, hx⟩ : ∃ t, t = (A[j]).id := ⟨_, rfl⟩
        obtain ⟨bd, hbd⟩ : ∃ t, t = (A[j]).body := ⟨_, rfl⟩
        rw [← hok] at HP1 HP0 HOK
        rw [← hx] at g0 HOK
        rw [← hbd] at g1 HOK
        clear hok hx hbd
        have t1 : decide ((j : Int) < (an : Int)) = true := by simp; omega
        by_cases x1 : 1 ≤ x
        · have u1 : ¬ x < 1 := by omega
          by_cases x2 : x ≤ 1099511627776
          · have u2 : ¬ 1099511627776 < x := by omega
            by_cases hs : bd.size ≤ 4096
            · have t2 : decide ((4096 : Int) < (bd.size : Int)) = false := by simp; omega
              have HG : Hid (ok = true) := Lib.hid (by rw [HOK.out, decide_eq_true x1, decide_eq_true x2, decide_eq_true hs]; rfl)
              go_wp2_with fail
              go_roundw
              case rel => exact ⟨j + 1, by omega, by go_num, Lib.hid (HP1.out HG.out), (by first | rfl | trivial)⟩
              case measure => simp [intOf]; omega
            · have t2 : decide ((4096 : Int) < (bd.size : Int)) = true := by simp; omega
              have HG : Hid (ok = false) := Lib.hid (by rw [HOK.out, decide_eq_false hs, Bool.and_false])
              go_wp2_with fail
              go_ret
              exact ⟨by rw [HP0.out HG.out]; rfl, hX⟩
          · have u2 : 1099511627776 < x := by omega
            have HG : Hid (ok = false) := Lib.hid (by rw [HOK.out, decide_eq_false x2, Bool.and_false, Bool.false_and])
            go_wp2_with fail
            go_ret
            exact ⟨by rw [HP0.out HG.out]; rfl, hX⟩
        · have u1 : x < 1 := by omega
          have HG : Hid (ok = false) := Lib.hid (by rw [HOK.out, decide_eq_false x1, Bool.false_and, Bool.false_and])
          go_wp2_with fail
          go_ret
          exact ⟨by rw [HP0.out HG.out]; rfl, hX⟩
      · obtain rfl : j = an := by omega
        have HR4 : Hid (R = D.all idB) := Lib.hid (by
          have h1 := HP.out
          rw [HAN.out, List.take_length] at h1
          rw [HR3.out, h1]; rfl)
        clear HR3 HP
        go_wp2_with fail
        obtain ⟨w2, rfl⟩ : ∃ w', w' = wr := ⟨_, rfl⟩
        go_loopw [4] (fun i wr => ∃ k : Nat, k ≤ dn ∧ i = .int .i64 (k : Int) ∧ Hid ((D.take k).all idB = true) ∧ wr = w2) (fun i _ => dn - (intOf i).toNat)
        case atStart => exact ⟨0, Nat.zero_le _, rfl, Lib.hid rfl, rfl⟩
        case round =>
          obtain ⟨d, hd, rfl, HP, rfl⟩ := hrel
          by_cases hlt3 : d < dn
          · have hkF : d < D.length := by rw [← HDN.out]; exact hlt3
            obtain ⟨b, o, rfl, g0⟩ := HGD.out d (.int .i64 D[d]) (by rw [kcells_get, List.getElem?_eq_getElem hkF]; rfl)
            replace g0 := hX.cell g0
            have HP1 : Hid (idB D[d] = true → (D.take (d + 1)).all idB = true) := Lib.hid fun h => all_take hkF HP.out h
            have HP0 : Hid (idB D[d] = false → R = false) := Lib.hid fun h => by rw [HR4.out, all_no hkF h]
            have HOK : Hid (idB D[d] = (decide (1 ≤ D[d]) && decide (D[d] ≤ 1099511627776))) := Lib.hid rfl
            obtain ⟨x, hx⟩ : ∃ t, t = D[d] := ⟨_, rfl⟩
            rw [← hx] at g0 HP1 HP0 HOK
            clear hx
            have t1 : decide ((d : Int) < (dn : Int)) = true := by simp; omega
            by_cases x1 : 1 ≤ x
            · have u1 : ¬ x < 1 := by omega
              by_cases x2 : x ≤ 1099511627776
              · have u2 : ¬ 1099511627776 < x := by omega
                have HG : Hid (idB x = true) := Lib.hid (by rw [HOK.out, decide_eq_true x1, decide_eq_true x2]; rfl)
                go_wp2_with fail
                go_roundw
                case rel => exact ⟨d + 1, by omega, by go_num, Lib.hid (HP1.out HG.out), (by first | rfl | trivial)⟩
                case measure => simp [intOf]; omega
              · have u2 : 1099511627776 < x := by omega
                have HG : Hid (idB x = false) := Lib.hid (by rw [HOK.out, decide_eq_false x2, Bool.and_false])
                go_wp2_with fail
                go_ret
                exact ⟨by rw [HP0.out HG.out]; rfl, hX⟩
            · have u1 : x < 1 := by omega
              have HG : Hid (idB x = false) := Lib.hid (by rw [HOK.out, decide_eq_false x1, Bool.false_and])
              go_wp2_with fail
              go_ret
              exact ⟨by rw [HP0.out HG.out]; rfl, hX⟩
          · obtain rfl : d = dn := by omega
            have HR5 : Hid (R = true) := Lib.hid (by
              have h1 := HP.out
              rw [HDN.out, List.take_length] at h1
              rw [HR4.out, h1])
            go_wp2_with fail
            go_ret
            exact ⟨by rw [HR5.out]; rfl, hX⟩
  · have HR2 : Hid (R = false) := Lib.hid (by
      rw [HR.out]
      by_cases z0 : (mo && decide (mn ≤ 64)) = true
      · by_cases z2 : an ≤ 300
        · rw [decide_eq_false (p := dn ≤ 300) (fun z => hsz ⟨z0, z2, z⟩)]; simp
        · rw [decide_eq_false z2]; simp
      · cases hmo : mo
        · simp
        · rw [hmo, Bool.true_and] at z0
          rw [show decide (mn ≤ 64) = false by simpa using z0]; simp)
    obtain ⟨b0, hb0⟩ : ∃ b, b = (mo && decide (mn ≤ 64)) := ⟨_, rfl⟩
    rw [← hb0] at K1 hsz
    have hex : b0 = false ∨ (b0 = true ∧ (300 : Int) < (an : Int)) ∨ (b0 = true ∧ ¬ (300 : Int) < (an : Int) ∧ (300 : Int) < (dn : Int)) := by
      cases b0
      · exact .inl rfl
      · refine .inr ?_
        by_cases z2 : an ≤ 300
        · exact .inr ⟨rfl, by omega, by have : ¬ dn ≤ 300 := fun z => hsz ⟨rfl, z2, z⟩; omega⟩
        · exact .inl ⟨rfl, by omega⟩
    clear HR hsz hb0
    rcases hex with rfl | ⟨rfl, y2⟩ | ⟨rfl, y2, y3⟩
    all_goals
      go_enter Tryd.func25, Tryd.ntmps25
      go_wp2_with (go_at_call 86; go_must (refine K1.out.mono ?_); rintro e w1 ⟨rfl, hE1⟩; have hbx1 := hbx.ext hE1; have c1 : w1.cell? ⟨w.heap.size, 1, none⟩ = some (.slice aa an ca) := hbx1.cell 1; have c2 : w1.cell? ⟨w.heap.size, 2, none⟩ = some (.slice ad dn cd) := hbx1.cell 2)
      go_ret
      exact ⟨by rw [HR2.out]; rfl, hE0.trans hE1⟩
end Go.Proofs.YtcmgeccgahakbaaDoor
