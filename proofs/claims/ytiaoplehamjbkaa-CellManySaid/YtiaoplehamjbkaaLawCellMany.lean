/- CellMany: of many cells the join is the greatest: the law's walk. -/
import Derived.Test.YtiaoplehamjbkaaGen
import Derived.Test.YtiaoplehamjbkaaGrow
namespace Go.Proofs.Ytiaoplehamjbkaa
open Go Go.RowKit
attribute [local go_sem] yields yUpon

theorem info_Cell : (Try.prog.info? 34).map (fun i => (i.zero, i.size, i.bytes)) = some (some (.agg #[.string ⟨#[]⟩, .bool false, .int .i64 0, .int .i64 0]), 4, 40) := by kernel_rfl
theorem und_Cells : Try.prog.underlying 48 = some (.slice 34) := by kernel_rfl

/-! ### The plain law -/
def zeroC : Cl := ⟨⟨#[]⟩, false, 0, 0⟩
def joinUp (f : Nat → Cl) : Nat → Cl
  | 0 => zeroC
  | k + 1 => joinCl (joinUp f k) (f k)
theorem cmpCl_refl_le (x : Cl) : cmpCl x x ≤ 0 := by rw [cmpCl_self]; exact Int.le_refl 0
theorem joinUp_zero (f : Nat → Cl) : ∀ k, cmpCl zeroC (joinUp f k) ≤ 0
  | 0 => cmpCl_refl_le _
  | k + 1 => cmpCl_trans (joinUp_zero f k) (ge_le (le_joinCl_left _ _))
theorem joinUp_ge (f : Nat → Cl) : ∀ k j, j < k → cmpCl (f j) (joinUp f k) ≤ 0
  | k + 1, j, h => by
    by_cases hj : j < k
    · exact cmpCl_trans (joinUp_ge f k j hj) (ge_le (le_joinCl_left _ _))
    · obtain rfl : j = k := by omega
      exact ge_le (le_joinCl_right _ _)
theorem joinUp_le (f : Nat → Cl) (U : Cl) (h0 : cmpCl zeroC U ≤ 0) : ∀ k, (∀ j, j < k → cmpCl (f j) U ≤ 0) → cmpCl (joinUp f k) U ≤ 0
  | 0, _ => h0
  | k + 1, h => joinCl_le (joinUp_le f U h0 k fun j hj => h j (by omega)) (h k (by omega))
theorem joinUp_round (f : Nat → Cl) (n c : Nat) (hc : c ≤ n) : joinUp f n = joinUp (fun i => f ((i + c) % n)) n := by
  refine le_antisymm (joinUp_le f _ (joinUp_zero _ n) n fun j hj => ?_) (joinUp_le _ _ (joinUp_zero _ n) n fun j hj => joinUp_ge f n _ (Nat.mod_lt _ (by omega)))
  have h := joinUp_ge (fun i => f ((i + c) % n)) n ((j + (n - c)) % n) (Nat.mod_lt _ (by omega))
  have e : ((j + (n - c)) % n + c) % n = j := by
    rw [Nat.mod_add_mod, show j + (n - c) + c = j + n by omega, Nat.add_mod_right, Nat.mod_eq_of_lt hj]
  simp only [e] at h
  exact h
theorem clCells_append (l m : List Cl) : clCells (l ++ m) = clCells l ++ clCells m := by
  induction l with
  | nil => rfl
  | cons c l ih => simp [clCells, ih]
theorem cellN_check (n : Int) (h0 : 0 ≤ n) : checkC (cellN n).val (cellN n).dead (cellN n).at_ (cellN n).fin = true := by
  have xs : ∀ i : Nat, i < 3 → ((⟨#[120, 121, 122]⟩ : ByteArray).extract i (i + 1)).size = 1 := by decide
  unfold cellN
  split
  · unfold checkC stampB
    have h1 : ¬ 1 + n % 7 = 0 := by omega
    simp [h1]
    omega
  · have e1 : (n / 28 % 3 + 1).toNat = (n / 28 % 3).toNat + 1 := by omega
    have e2 := xs (n / 28 % 3).toNat (by omega)
    rw [← e1] at e2
    have h1 : ¬ 1 + n % 7 = 0 := by omega
    unfold checkC stampB
    simp [h1, e2]
    split <;> omega
def cl4 (c : Cl) : Array Value := #[.string c.val, .bool c.dead, .int .i64 c.at_, .int .i64 c.fin]
def msOf (z : List Int) : List Cl := z.map fun x => cellN (x % 1048576)

theorem ownsRow_len {w : World} {B : Nat} {e : TypeId} {size : Nat} {v : Value} {n : Nat} {xs : List Value} (h : w.ownsRow B e size v n xs) : lenOf v = n := by
  rcases h.2 with ⟨rfl, rfl⟩ | ⟨g, cap, cur, rfl, _⟩ <;> rfl

set_option maxRecDepth 100000 in
set_option maxHeartbeats 2000000 in
theorem law_cellMany (v : Value) (z : List Int) (by_ : Int) (hz : z.length ≤ 60) (W : World) (hin : IntsIn W v .i64 z) :
    Calls Try.prog 10 #[v, .int .i64 by_] W fun e w' => e = .returned (.bool true) ∧ Ext W w' := by
  obtain ⟨a, c, rfl, hc, hcm, ha⟩ := hin.block
  obtain ⟨ms, hms⟩ : ∃ ms, ms = msOf z := ⟨_, rfl⟩
  have hml : ms.length = z.length := by rw [hms]; simp [msOf]
  have HM := Lib.hid hms
  clear hms
  have h0 : decide ((60 : Int) < (z.length : Int)) = false := by simp; omega
  go_enter Try.func10, Try.ntmps10
  go_wp2
  clear hc hcm ha
  go_loopw [6] (fun m wr => ∃ (k : Nat) (u : Value), k ≤ z.length ∧ wr.ownsRow (W.heap.size + 1) 34 4 m k (clCells (ms.take k)) ∧ BoxAt wr W.heap.size #[u] 47 ∧ IntsIn W u .i64 (z.drop k) ∧ Ext W wr) (fun m _ => z.length - lenOf m)
  case atStart => exact ⟨0, _, Nat.zero_le _, World.ownsRow_nil _ _ _ _, BoxAt.made _ _ _, hin, (Ext.refl W).alloc _⟩
  case round =>
    obtain ⟨k, u, hk, hown, hbox, hin', hE⟩ := hrel
    have c0 := hbox.cell 0
    simp at c0
    by_cases hlt : k < z.length
    · obtain ⟨x, l, hd⟩ : ∃ x l, z.drop k = x :: l := ⟨_, _, List.drop_eq_getElem_cons hlt⟩
      have hdl : l.length + 1 + k = z.length := by have := congrArg List.length hd; simp at this; omega
      rw [hd] at hin'
      obtain ⟨a', c', rfl, hc', hcm', ha'⟩ := hin'.block
      clear ha'
      go_wp2_with fail
      refine (lcell_any W W.heap.size (Nat.le_refl _) _ x l hin' wr hE hbox).mono ?_
      rintro e w2 ⟨rfl, u', hE2, hin2⟩
      have hX2 : Ext W w2 := (hE.setCell (Nat.le_refl _) _).trans hE2
      have hsz2 := hX2.le
      have hlt2 : W.heap.size + 1 ≤ w2.heap.size := by
        have h1 := hE2.le
        have h2 := hbox.lt
        rw [Deep.nblk_setCell] at h1
        omega
      have hbox2 : BoxAt w2 W.heap.size #[u'] 47 := (hbox.set 0 u').ext hE2
      have hown2 := ownsRow_ext (ownsRow_setCell_below hown (a := ⟨W.heap.size, 0, none⟩) (Nat.lt_succ_self _) u') hE2
      go_wp2_with (at_builtin; go_must (refine appR info_Cell und_Cells rfl (by decide) w2 rfl (.tmp 25) (.tmp 28) rfl (W.heap.size + 1) hlt2 _ _ _ hown2 rfl 1 _ rfl rfl (by simp [Value.oneCell']) (by unfold maxLen; omega) (by omega) ?_); intro m3 w3 hown3 hg3)
      have hxk : z[k]? = some x := by have := congrArg (·[0]?) hd; simpa using this
      have htk : ms.take (k + 1) = ms.take k ++ [cellN (x % 1048576)] := by
        rw [List.take_succ_eq_append_getElem (by omega)]
        congr 2
        have : ms[k]? = some (cellN (x % 1048576)) := by rw [HM.out]; simp [msOf, hxk]
        rw [List.getElem?_eq_getElem (by omega)] at this
        simpa using this
      go_roundw
      case rel =>
        refine ⟨k + 1, u', by omega, ?_, (hbox2.ext ((Ext.refl w2).alloc _)).grown hg3 (fun h => ?_), ?_, (hX2.alloc _).grown hg3 fun q hq => by have := (hown2.lt q hq).1; omega⟩
        · rw [htk, clCells_append]
          exact hown3
        · have := (hown2.lt _ h.symm).1
          omega
        · have : z.drop (k + 1) = l := by rw [← List.drop_drop, hd]; rfl
          rw [this]
          exact hin2
      case measure =>
        rw [ownsRow_len hown3, ownsRow_len hown]
        omega
    · obtain rfl : k = z.length := by omega
      rw [List.drop_length] at hin'
      obtain ⟨a', c', rfl, hc', hcm', ha'⟩ := hin'.block
      rw [List.take_of_length_le (by omega)] at hown
      obtain ⟨a6, c6, rfl, hc6, hcm6, ha6, hcell⟩ := SliceIn.of_owns hown
      have HC := Lib.hid hcell
      clear hcell ha6 hown hin' ha' hc' hcm'
      generalize hn : z.length = n at *
      have hn60 : n ≤ 60 := hz
      obtain ⟨cN, hcN⟩ : ∃ cN : Nat, by_ % ((n : Int) + 1) = cN := ⟨(by_ % ((n : Int) + 1)).toNat, by have := Int.emod_nonneg by_ (b := (n : Int) + 1) (by omega); omega⟩
      have hcn : cN ≤ n := by have := Int.emod_lt_of_pos by_ (b := (n : Int) + 1) (by omega); omega
      go_wp2_with fail
      refine (place_any _ _ (by omega) (by omega) _).mono ?_
      rw [hcN]
      rintro e w2 ⟨rfl, rfl⟩
      go_wp2_with fail
      obtain ⟨fa, hfa⟩ : ∃ f : Nat → Cl, f = fun k => ms.getD k zeroC := ⟨_, rfl⟩
      obtain ⟨fb, hfb⟩ : ∃ f : Nat → Cl, f = fun k => fa ((k + cN) % n) := ⟨_, rfl⟩
      have hms : ∀ j, j < n → ∃ b o, a6 = some ⟨b, o, none⟩ ∧ wr.cell? ⟨b, o + j * 4, none⟩ = some (.string (fa j).val) ∧ wr.cell? ⟨b, o + j * 4 + 1, none⟩ = some (.bool (fa j).dead) ∧ wr.cell? ⟨b, o + j * 4 + 2, none⟩ = some (.int .i64 (fa j).at_) ∧ wr.cell? ⟨b, o + j * 4 + 3, none⟩ = some (.int .i64 (fa j).fin) := by
        intro j hj
        have hj' : j < ms.length := by omega
        have e : fa j = ms[j] := by rw [hfa]; simp [hj']
        rw [e]
        obtain ⟨g0, g1, g2, g3⟩ := clCells_get ms j hj'
        obtain ⟨b, o, rfl, h0⟩ := HC.out _ _ g0
        obtain ⟨b1, o1, e1, h1⟩ := HC.out _ _ g1
        obtain ⟨b2, o2, e2, h2⟩ := HC.out _ _ g2
        obtain ⟨b3, o3, e3, h3⟩ := HC.out _ _ g3
        cases e1; cases e2; cases e3
        exact ⟨b, o, rfl, h0, h1, h2, h3⟩
      have hck : ∀ j, j < n → checkC (fa j).val (fa j).dead (fa j).at_ (fa j).fin = true := by
        intro j hj
        have hzj : j < z.length := by rw [hn]; exact hj
        have e : fa j = cellN (z[j] % 1048576) := by
          have hj' : j < ms.length := by omega
          rw [hfa]
          show ms.getD j zeroC = _
          rw [List.getD_eq_getElem?_getD, HM.out]
          simp [msOf, hzj]
        rw [e]
        exact cellN_check _ (by omega)
      have HS := Lib.hid hms
      have hck := Lib.hid hck
      have HFB := Lib.hid hfb
      clear hms hfa hfb HC
      obtain ⟨wo, rfl⟩ : ∃ w', w' = wr := ⟨_, rfl⟩
      go_loopw [10] (fun i wq => ∃ k : Nat, k ≤ n ∧ i = .int .i64 k ∧ BoxAt wq wo.heap.size (cl4 (joinUp fa k)) 34 ∧ BoxAt wq (wo.heap.size + 1) (cl4 (joinUp fb k)) 34 ∧ Ext wo wq) (fun i _ => n - (intOf i).toNat)
      case atStart =>
        refine ⟨0, Nat.zero_le _, rfl, ?_, ?_, ((Ext.refl wo).alloc _).alloc _⟩
        · exact (BoxAt.made wo _ _).ext ((Ext.refl _).alloc _)
        · have := BoxAt.made (wo.alloc (.cells (cl4 zeroC) 34)) (cl4 zeroC) 34
          rw [Deep.nblk_alloc] at this
          exact this
      case round =>
        obtain ⟨k, hk, rfl, hba, hbb, hEq⟩ := hrel
        by_cases hlt : k < n
        · go_wp2_with fail
          obtain ⟨A, hA⟩ : ∃ A, A = joinUp fa k := ⟨_, rfl⟩
          obtain ⟨B, hB⟩ : ∃ B, B = joinUp fb k := ⟨_, rfl⟩
          rw [← hA] at hba
          rw [← hB] at hbb
          have HA := Lib.hid hA
          have HB := Lib.hid hB
          clear hA hB
          obtain ⟨b, o, e6, h0, h1, h2, h3⟩ := HS.out k hlt
          subst e6
          obtain ⟨M, hM⟩ : ∃ M, M = fa k := ⟨_, rfl⟩
          rw [← hM] at h0 h1 h2 h3
          have HM2 := Lib.hid hM
          clear hM
          have m0 := held (hEq.cell h0)
          have m1 := held (hEq.cell h1)
          have m2 := held (hEq.cell h2)
          have m3 := held (hEq.cell h3)
          have x0 := held ((hba.cell 0).trans (show (cl4 A)[0]? = some (Value.string A.val) from rfl))
          have x1 := held ((hba.cell 1).trans (show (cl4 A)[1]? = some (Value.bool A.dead) from rfl))
          have x2 := held ((hba.cell 2).trans (show (cl4 A)[2]? = some (Value.int .i64 A.at_) from rfl))
          have x3 := held ((hba.cell 3).trans (show (cl4 A)[3]? = some (Value.int .i64 A.fin) from rfl))
          have hki : decide ((k : Int) < (n : Int)) = true := by simpa using hlt
          refine wp_region_tab 6 [(5, fun v _ => v = (.agg #[.string (joinCl A M).val, .bool (joinCl A M).dead, .int .i64 (joinCl A M).at_, .int .i64 (joinCl A M).fin]))] (by kernel_rfl) (by kernel_rfl) (by kernel_rfl) ⟨stays_eq _, trivial⟩ ?_
          refine rg_quiet rfl rfl rfl rfl ?_; intro K hK; go_big_quiet_op; go_big_quiet_on
          refine rg_quiet rfl rfl rfl rfl ?_; intro K hK; go_big_quiet_op; go_big_quiet_on
          refine rg_quiet rfl rfl rfl rfl ?_; intro K hK; go_big_quiet_op; go_big_quiet_on
          refine rg_quiet rfl rfl rfl rfl ?_; intro K hK; go_big_quiet_op; go_big_quiet_on
          refine rg_quiet rfl rfl rfl rfl ?_; intro K hK; go_big_quiet_op; go_big_quiet_on
          refine rg_val [] rfl rfl rfl (by kernel_rfl) (fun w1 hE hf => ?_) ?_
          · go_simp
            exact (join_c _ _ _ _ _ _ _ _ w1).mono fun e w' ⟨he, hw⟩ => ⟨_, he, rg_done hE hw (rfl)⟩
          simp only [Act.put, List.setIfInBounds_toArray, List.set_cons_zero, List.set_cons_succ]
          clear h0 h1 h2 h3 m0 m1 m2 m3 x0 x1 x2 x3
          refine rel_tail rfl rfl fun w5 hE5 hG => ?_
          have hba5 := hba.ext hE5
          have hbb5 := hbb.ext hE5
          replace hEq := hEq.trans hE5
          clear hba hbb hE5 hG
          have x0 := (hba5.cell 0).trans (show (cl4 A)[0]? = some (Value.string A.val) from rfl)
          have x1 := (hba5.cell 1).trans (show (cl4 A)[1]? = some (Value.bool A.dead) from rfl)
          have x2 := (hba5.cell 2).trans (show (cl4 A)[2]? = some (Value.int .i64 A.at_) from rfl)
          have x3 := (hba5.cell 3).trans (show (cl4 A)[3]? = some (Value.int .i64 A.fin) from rfl)
          have xf := hba5.free
          go_wp2_with fail
          obtain ⟨r, hr⟩ : ∃ r, r = (k + cN) % n := ⟨_, rfl⟩
          have hrn : r < n := by rw [hr]; exact Nat.mod_lt _ (by omega)
          have hr1 : ((k : Int) + (cN : Int)) % (n : Int) = (r : Int) := by rw [hr, Int.natCast_emod, Int.natCast_add]
          have hr2 : Int.tmod ((k : Int) + (cN : Int)) (n : Int) = (r : Int) := by rw [Int.tmod_eq_emod_of_nonneg (by omega)]; exact hr1
          obtain ⟨b', o', e6, h0, h1, h2, h3⟩ := HS.out r hrn
          cases e6
          obtain ⟨M', hM'⟩ : ∃ M, M = fa r := ⟨_, rfl⟩
          rw [← hM'] at h0 h1 h2 h3
          have HB' : Hid (joinCl M' B = joinUp fb (k + 1)) := by rw [hM', joinCl_comm]; show joinCl B (fa r) = joinCl (joinUp fb k) (fb k); rw [← HB.out, HFB.out, hr]
          clear hM' hr
          have hri : decide ((r : Int) < (n : Int)) = true := by simpa using hrn
          have hn0 : ((n : Int) == 0) = false := by simp; omega
          refine wp_region_in 11 [(10, fun v _ => v = (.agg #[.string (joinCl M' B).val, .bool (joinCl M' B).dead, .int .i64 (joinCl M' B).at_, .int .i64 (joinCl M' B).fin]))] (fun w0 => BoxAt w0 wo.heap.size (cl4 (joinCl A M)) 34 ∧ BoxAt w0 (wo.heap.size + 1) (cl4 B) 34 ∧ Ext wo w0) (by kernel_rfl) (by kernel_rfl) (by kernel_rfl) ⟨stays_eq _, trivial⟩ ?_ ?_
          · refine ⟨(((hba5.set 0 _).set 1 _).set 2 _).set 3 _, (((hbb5.other (by omega) 0 _).other (by omega) 1 _).other (by omega) 2 _).other (by omega) 3 _, ?_⟩
            exact (((hEq.setCell (Nat.le_refl _) _).setCell (Nat.le_refl _) _).setCell (Nat.le_refl _) _).setCell (Nat.le_refl _) _
          clear hba5 hbb5 hEq x0 x1 x2 x3 xf
          rintro w7 ⟨hba, hbb, hEq⟩
          have m0 := held (hEq.cell h0)
          have m1 := held (hEq.cell h1)
          have m2 := held (hEq.cell h2)
          have m3 := held (hEq.cell h3)
          have x0 := held ((hbb.cell 0).trans (show (cl4 B)[0]? = some (Value.string B.val) from rfl))
          have x1 := held ((hbb.cell 1).trans (show (cl4 B)[1]? = some (Value.bool B.dead) from rfl))
          have x2 := held ((hbb.cell 2).trans (show (cl4 B)[2]? = some (Value.int .i64 B.at_) from rfl))
          have x3 := held ((hbb.cell 3).trans (show (cl4 B)[3]? = some (Value.int .i64 B.fin) from rfl))
          refine rg_quiet rfl rfl rfl rfl ?_; intro K hK; go_big_quiet_op; go_big_quiet_on
          refine rg_quiet rfl rfl rfl rfl ?_; intro K hK; go_big_quiet_op; go_big_quiet_on
          refine rg_quiet rfl rfl rfl rfl ?_; intro K hK; go_big_quiet_op; go_big_quiet_on
          refine rg_quiet rfl rfl rfl rfl ?_; intro K hK; go_big_quiet_op; go_big_quiet_on
          refine rg_quiet rfl rfl rfl rfl ?_; intro K hK; go_big_quiet_op; go_big_quiet_on
          refine rg_quiet rfl rfl rfl rfl ?_; intro K hK; go_big_quiet_op; go_big_quiet_on
          refine rg_quiet rfl rfl rfl rfl ?_; intro K hK; go_big_quiet_op; go_big_quiet_on
          refine rg_quiet rfl rfl rfl rfl ?_; intro K hK; go_big_quiet_op; go_big_quiet_on
          refine rg_quiet rfl rfl rfl rfl ?_; intro K hK; go_big_quiet_op; go_big_quiet_on
          refine rg_quiet rfl rfl rfl rfl ?_; intro K hK; go_big_quiet_op; go_big_quiet_on
          refine rg_val [] rfl rfl rfl (by kernel_rfl) (fun w1 hE hf => ?_) ?_
          · go_simp
            exact (join_c _ _ _ _ _ _ _ _ w1).mono fun e w' ⟨he, hw⟩ => ⟨_, he, rg_done hE hw (rfl)⟩
          simp only [Act.put, List.setIfInBounds_toArray, List.set_cons_zero, List.set_cons_succ]
          clear h0 h1 h2 h3 m0 m1 m2 m3 x0 x1 x2 x3
          refine rel_tail rfl rfl fun w8 hE8 hG => ?_
          have hba8 := hba.ext hE8
          have hbb8 := hbb.ext hE8
          replace hEq := hEq.trans hE8
          clear hba hbb hE8 hG
          have x0 := (hbb8.cell 0).trans (show (cl4 B)[0]? = some (Value.string B.val) from rfl)
          have x1 := (hbb8.cell 1).trans (show (cl4 B)[1]? = some (Value.bool B.dead) from rfl)
          have x2 := (hbb8.cell 2).trans (show (cl4 B)[2]? = some (Value.int .i64 B.at_) from rfl)
          have x3 := (hbb8.cell 3).trans (show (cl4 B)[3]? = some (Value.int .i64 B.fin) from rfl)
          have xf := hbb8.free
          go_wp2_with fail
          go_roundw
          case rel =>
            refine ⟨k + 1, by omega, by go_num, ?_, ?_, ?_⟩
            · show BoxAt _ _ (cl4 (joinCl (joinUp fa k) (fa k))) _
              rw [← HA.out, ← HM2.out]
              exact (((hba8.other (by omega) 0 _).other (by omega) 1 _).other (by omega) 2 _).other (by omega) 3 _
            · rw [← HB'.out]
              exact (((hbb8.set 0 _).set 1 _).set 2 _).set 3 _
            · exact (((hEq.setCell (Nat.le_succ _) _).setCell (Nat.le_succ _) _).setCell (Nat.le_succ _) _).setCell (Nat.le_succ _) _
          case measure => simp [intOf] <;> omega
        · obtain rfl : k = n := by omega
          have hJ : joinUp fb k = joinUp fa k := by rw [HFB.out]; exact (joinUp_round fa k cN hcn).symm
          rw [hJ] at hbb
          have HU : Hid (∀ j, j < k → cmpCl (fa j) (joinUp fa k) ≤ 0) := joinUp_ge fa k
          have HK := hck
          clear hJ HFB
          obtain ⟨J, hJ⟩ : ∃ J, J = joinUp fa k := ⟨_, rfl⟩
          rw [← hJ] at hba hbb HU
          clear hJ
          go_wp2_with fail
          obtain ⟨wn, rfl⟩ : ∃ w', w' = wr := ⟨_, rfl⟩
          go_loopw [11] (fun i wq => ∃ j : Nat, j ≤ k ∧ i = .int .i64 j ∧ Ext wn wq) (fun i _ => k - (intOf i).toNat)
          case atStart => exact ⟨0, Nat.zero_le _, rfl, Ext.refl _⟩
          case round =>
            obtain ⟨j, hj, rfl, hEj⟩ := hrel
            replace hba := hba.ext hEj
            replace hbb := hbb.ext hEj
            replace hEq := hEq.trans hEj
            by_cases hlt : j < k
            · go_wp2_with fail
              obtain ⟨b, o, e6, h0, h1, h2, h3⟩ := HS.out j hlt
              subst e6
              have hup := HU.out j hlt
              have hcj := HK.out j hlt
              obtain ⟨M, hM⟩ : ∃ M, M = fa j := ⟨_, rfl⟩
              rw [← hM] at h0 h1 h2 h3 hup hcj
              obtain ⟨p, hp⟩ : ∃ p, p = cmpCl M J := ⟨_, rfl⟩
              rw [← hp] at hup
              have HP := Lib.hid hp.symm
              have HC := Lib.hid hcj
              clear hM hp hcj
              have hp0 : decide (0 < p) = false := by simp; omega
              have hji : decide ((j : Int) < (k : Int)) = true := by simpa using hlt
              have m0 := held (hEq.cell h0)
              have m1 := held (hEq.cell h1)
              have m2 := held (hEq.cell h2)
              have m3 := held (hEq.cell h3)
              have x0 := held ((hba.cell 0).trans (show (cl4 J)[0]? = some (Value.string J.val) from rfl))
              have x1 := held ((hba.cell 1).trans (show (cl4 J)[1]? = some (Value.bool J.dead) from rfl))
              have x2 := held ((hba.cell 2).trans (show (cl4 J)[2]? = some (Value.int .i64 J.at_) from rfl))
              have x3 := held ((hba.cell 3).trans (show (cl4 J)[3]? = some (Value.int .i64 J.fin) from rfl))
              refine wp_region_tab 15 [(5, fun v _ => v = .int .i64 p), (12, fun v _ => v = .bool true)] (by kernel_rfl) (by kernel_rfl) (by kernel_rfl) ⟨stays_eq _, stays_eq _, trivial⟩ ?_
              refine rg_quiet rfl rfl rfl rfl ?_; intro K hK; go_big_quiet_op; go_big_quiet_on
              refine rg_quiet rfl rfl rfl rfl ?_; intro K hK; go_big_quiet_op; go_big_quiet_on
              refine rg_quiet rfl rfl rfl rfl ?_; intro K hK; go_big_quiet_op; go_big_quiet_on
              refine rg_quiet rfl rfl rfl rfl ?_; intro K hK; go_big_quiet_op; go_big_quiet_on
              refine rg_quiet rfl rfl rfl rfl ?_; intro K hK; go_big_quiet_op; go_big_quiet_on
              refine rg_val [] rfl rfl rfl (by kernel_rfl) (fun w1 hE hf => ?_) ?_
              · go_simp
                exact (cmp_c _ _ _ _ _ _ _ _ w1).mono fun e w' ⟨he, hw⟩ => ⟨_, he, rg_done hE hw (int_congr HP.out)⟩
              simp only [Act.put, List.setIfInBounds_toArray, List.set_cons_zero, List.set_cons_succ]
              refine rg_quiet rfl rfl rfl rfl ?_; intro K hK; go_big_quiet_op; go_big_quiet_on
              refine rg_quiet rfl rfl rfl rfl ?_; intro K hK; go_big_quiet_op; go_big_quiet_on
              refine rg_quiet rfl rfl rfl rfl ?_; intro K hK; go_big_quiet_op; go_big_quiet_on
              refine rg_quiet rfl rfl rfl rfl ?_; intro K hK; go_big_quiet_op; go_big_quiet_on
              refine rg_quiet rfl rfl rfl rfl ?_; intro K hK; go_big_quiet_op; go_big_quiet_on
              refine rg_quiet rfl rfl rfl rfl ?_; intro K hK; go_big_quiet_op; go_big_quiet_on
              refine rg_val [] rfl rfl rfl (by kernel_rfl) (fun w1 hE hf => ?_) ?_
              · go_simp
                exact (check_any _ _ _ _ w1).mono fun e w' ⟨he, hw⟩ => ⟨_, he, rg_done hE hw (bool_congr HC.out)⟩
              simp only [Act.put, List.setIfInBounds_toArray, List.set_cons_zero, List.set_cons_succ]
              refine rg_quiet rfl rfl rfl rfl ?_; intro K hK; go_big_quiet_op; go_big_quiet_on
              refine rg_quiet rfl rfl rfl rfl ?_; intro K hK; go_big_quiet_op; go_big_quiet_on
              refine rel_nil fun w5 hE5 _ => ?_
              replace hEj := hEj.trans hE5
              clear hba hbb hEq hE5 h0 h1 h2 h3 m0 m1 m2 m3 x0 x1 x2 x3
              go_wp2_with fail
              go_roundw
              case rel => exact ⟨j + 1, by omega, by go_num, hEj⟩
              case measure => simp [intOf] <;> omega
            · have x0 := (hba.cell 0).trans (show (cl4 J)[0]? = some (Value.string J.val) from rfl)
              have x1 := (hba.cell 1).trans (show (cl4 J)[1]? = some (Value.bool J.dead) from rfl)
              have x2 := (hba.cell 2).trans (show (cl4 J)[2]? = some (Value.int .i64 J.at_) from rfl)
              have x3 := (hba.cell 3).trans (show (cl4 J)[3]? = some (Value.int .i64 J.fin) from rfl)
              have y0 := (hbb.cell 0).trans (show (cl4 J)[0]? = some (Value.string J.val) from rfl)
              have y1 := (hbb.cell 1).trans (show (cl4 J)[1]? = some (Value.bool J.dead) from rfl)
              have y2 := (hbb.cell 2).trans (show (cl4 J)[2]? = some (Value.int .i64 J.at_) from rfl)
              have y3 := (hbb.cell 3).trans (show (cl4 J)[3]? = some (Value.int .i64 J.fin) from rfl)
              go_wp2_with fail
              refine (same_c _ _ _ _ _ _ _ _ _).mono ?_
              rw [show sameCl ⟨J.val, J.dead, J.at_, J.fin⟩ ⟨J.val, J.dead, J.at_, J.fin⟩ = true from (sameCl_iff J J).2 rfl]
              rintro e w6 ⟨rfl, hE6⟩
              go_wp2_with fail
              refine (cawake_any _).mono ?_
              rintro e w7 ⟨rfl, hE7⟩
              go_wp2
              go_ret
              exact ⟨rfl, ((hE.trans hEq).trans hE6).trans hE7⟩

set_option maxHeartbeats 1000000 in
theorem law_cellMany_big (v : Value) (z : List Int) (by_ : Int) (hz : 60 < z.length) (W : World) (hin : IntsIn W v .i64 z) :
    Calls Try.prog 10 #[v, .int .i64 by_] W fun e w' => e = .returned (.bool true) ∧ Ext W w' := by
  obtain ⟨a, c, rfl, hc, hcm, ha⟩ := hin.block
  have h0 : decide ((60 : Int) < (z.length : Int)) = true := by simp; omega
  clear hin
  go_enter Try.func10, Try.ntmps10
  go_wp2_with fail
  refine (cawake_any _).mono ?_
  rintro e w1 ⟨rfl, hE⟩
  go_wp2
  go_ret
  exact ⟨rfl, hE⟩

theorem walk_cellMany (v : Value) (by_ : Int) (W : World) (w0 : ∃ l : List Int, IntsIn W v .i64 l ∧ ∀ n ∈ l, (Lit.int .i64 n).wf = true) (_ : (Lit.int .i64 by_).wf = true) :
    Calls Try.prog 10 #[v, .int .i64 by_] W fun e w' => e = .returned (.bool true) ∧ Ext W w' := by
  obtain ⟨z, hin, _⟩ := w0
  by_cases h : 60 < z.length
  · exact law_cellMany_big v z by_ h W hin
  · exact law_cellMany v z by_ (by omega) W hin
end Go.Proofs.Ytiaoplehamjbkaa
