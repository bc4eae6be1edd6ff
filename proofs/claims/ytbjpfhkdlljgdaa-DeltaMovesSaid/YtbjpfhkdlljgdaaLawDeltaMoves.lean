/- DeltaMoves: a row that goes from value to value: the law's walk. -/
import Derived.Test.YtbjpfhkdlljgdaaAwake19
import Derived.Test.YtbjpfhkdlljgdaaStoreE
import Derived.Test.YtbjpfhkdlljgdaaReadInts
import Derived.Test.YtbjpfhkdlljgdaaPlace
import Derived.Test.YtbjpfhkdlljgdaaGen
namespace Go.Proofs.Ytbjpfhkdlljgdaa
open Go Go.RowKit
attribute [local go_sem] yields yUpon ro8 pa3 vw5 tabV viewV

/-! ### The plain law -/
/-- The value of a kind: x, y, z; x for the kind of what is dead. -/
def mvV (kk : Int) : ByteArray := (⟨#[120, 121, 122]⟩ : ByteArray).extract (kk % 3).toNat (kk % 3 + 1).toNat
theorem mvV_size (kk : Int) : (mvV kk).size = 1 := by
  have xs : ∀ i : Nat, i < 3 → ((⟨#[120, 121, 122]⟩ : ByteArray).extract i (i + 1)).size = 1 := by decide
  have e : (kk % 3 + 1).toNat = (kk % 3).toNat + 1 := by omega
  unfold mvV
  rw [e]
  exact xs _ (by omega)
theorem mvV_ne (kk : Int) : (mvV kk).toList ≠ [] := by
  intro h
  have := mvV_size kk
  rw [ByteArray.toList_eq] at h
  have e : (mvV kk).size = (mvV kk).data.toList.length := rfl
  rw [e, h] at this
  cases this
/-- Where a row stands: nowhere, or at a value since a stamp. -/
def mvM (o : Option (ByteArray × Int)) : Option (ByteArray × Ro) := o.map fun p => (p.1, kMir ⟨p.1, false, p.2, 0⟩)
def mvS (o : Option (ByteArray × Int)) : ByteArray := match o with
  | some p => p.1
  | none => ⟨#[]⟩
theorem mir_dead (at_ : Int) (h : 1 ≤ at_) (V : ByteArray) : mirOf dV dNs ⟨#[109]⟩ 0 (kRow (oneC V at_ true)) = none := by
  rw [mir_k _ (by exact h)]; rfl
theorem mir_live (at_ : Int) (h : 1 ≤ at_) (V : ByteArray) : mirOf dV dNs ⟨#[109]⟩ 0 (kRow (oneC V at_ false)) = some (V, kMir ⟨V, false, at_, 0⟩) := by
  rw [mir_k _ (by exact h)]; rfl
theorem left_k (m : Ro) (c : Cl) (h : 1 ≤ c.at_) : leftRo dV m (kRow c) 0 = ⟨m.key, zeroCl, 0, m.live.at_, [⟨⟨#[97]⟩, c⟩]⟩ := by
  have e1 : cellOf (kRow c).cols dV.on = c := by simp [cellOf, kRow, dV]
  unfold leftRo cellL
  rw [e1, if_neg (by omega)]
  rfl

theorem ints_at19 {w : World} {a : Option Addr} {n c : Nat} {z : List Int} (h : IntsIn w (.slice a n c) .i64 z) (k : Nat) (hk : k < z.length) : ∃ b o, a = some ⟨b, o, none⟩ ∧ w.cell? ⟨b, o + k, none⟩ = some (.int .i64 (z.getD k 0)) := by
  obtain ⟨a', c', e, _, _, _, hcell⟩ := h
  cases e
  exact hcell k _ (by rw [kcells_get]; simp [hk])

/-- What stays true in the region that makes the next one. -/
structure MV (w1 : World) (bs bu p3 p4 p6 : Nat) (ov : Value) (pso : List (Ro × Value)) (S : Nat) (x : World) : Prop where
  ext : Ext w1 x
  tab : BoxAt x p3 #[.string ⟨#[116]⟩, .int .i64 1, .string ⟨#[112]⟩, .int .i64 1, .string ⟨#[107]⟩, .int .i64 2, .slice (some ⟨bs, 0, none⟩) 4 4] 43
  view : BoxAt x p4 (vw5 dV (.slice (some ⟨bu, 0, none⟩) 2 2)) 46
  old : BoxAt x p6 (pa3 ⟨#[109]⟩ 0 ov) 26
  rows : RowsT x ov pso
  size : S ≤ x.heap.size
theorem MV.ext' {w1 : World} {bs bu p3 p4 p6 : Nat} {ov : Value} {pso : List (Ro × Value)} {S : Nat} {x y : World} (hE : Ext x y) (h : MV w1 bs bu p3 p4 p6 ov pso S x) : MV w1 bs bu p3 p4 p6 ov pso S y :=
  ⟨h.ext.trans hE, h.tab.ext hE, h.view.ext hE, h.old.ext hE, h.rows.ext hE, Nat.le_trans h.size hE.le⟩

set_option maxRecDepth 100000 in
set_option maxHeartbeats 16000000 in
theorem law_deltaMoves (v0 : Value) (z : List Int) (w : World) (hin : IntsIn w v0 .i64 z) :
    Calls Try.prog 7 #[v0] w fun e w' => e = .returned (.bool true) ∧ Ext w w' := by
  obtain ⟨a, c, rfl, hc, hcm, ha⟩ := hin.block
  go_enter Try.func7, Try.ntmps7
  go_wp2_with fail
  refine (view_any w).mono ?_
  rintro e w1 ⟨bs, bu, rfl, hns, hE1⟩
  go_wp2_with (first
    | (((guard_target =~ wpList _ _ _ (Oper.mk none (Op.store _ (Operand.tmp 3) (Operand.tmp 16)) _ _ _ _ :: _) _ _); go_must (refine storeBox rfl 43 (.tmp 3) (.tmp 16) rfl (w1.heap.size) _ _ _ (by rfl) (by rfl) (((BoxAt.made w1 #[.string ⟨#[]⟩, .int .i64 0, .string ⟨#[]⟩, .int .i64 0, .string ⟨#[]⟩, .int .i64 0, .slice none 0 0] 43).ext ((Ext.refl _).alloc _))) (by kernel_rfl) (by rfl) (by simp [Value.oneCell']) ?_); intro w2 c2 g2); have hX2 : Ext w1 w2 := (((Ext.refl w1).alloc _).alloc _).grown g2 (fun q hq => by cases hq; omega); have hv2 := (BoxAt.madeN #[.string ⟨#[]⟩, .int .i64 0, .string ⟨#[]⟩, .string ⟨#[]⟩, .slice none 0 0] 46 (show (w1.alloc (.cells #[.string ⟨#[]⟩, .int .i64 0, .string ⟨#[]⟩, .int .i64 0, .string ⟨#[]⟩, .int .i64 0, .slice none 0 0] 43)).heap.size = w1.heap.size + 1 by simp)).grown g2 (fun e => by have := Option.some.inj e; omega))
    | (((guard_target =~ wpList _ _ _ (Oper.mk none (Op.store _ (Operand.tmp 4) (Operand.tmp 17)) _ _ _ _ :: _) _ _); go_must (refine storeBox rfl 46 (.tmp 4) (.tmp 17) rfl (w1.heap.size + 1) _ _ _ (by rfl) (by rfl) (hv2) (by kernel_rfl) (by rfl) (by simp [Value.oneCell']) ?_); intro w3 c3 g3); have hX3 : Ext w1 w3 := hX2.grown g3 (fun q hq => by cases hq; omega); have hl3 := c3.lt; have b2 : BoxAt w3 w1.heap.size #[.string ⟨#[116]⟩, .int .i64 1, .string ⟨#[112]⟩, .int .i64 1, .string ⟨#[107]⟩, .int .i64 2, .slice (some ⟨bs, 0, none⟩) 4 4] 43 := c2.grown g3 (fun e => by have := Option.some.inj e; omega); have b3 : BoxAt w3 (w1.heap.size + 1) (vw5 dV (.slice (some ⟨bu, 0, none⟩) 2 2)) 46 := c3)
    | (((guard_target =~ wpList _ _ _ (Oper.mk none (Op.store _ (Operand.tmp 6) (Operand.tmp 18)) _ _ _ _ :: _) _ _); go_must (refine storeBox rfl 26 (.tmp 6) (.tmp 18) rfl (w3.heap.size) _ _ _ (by rfl) (by rfl) ((BoxAt.made w3 (pa3 ⟨#[]⟩ 0 (.slice none 0 0)) 26)) (by kernel_rfl) (by rfl) (by simp [Value.oneCell']) ?_); intro w4 c4 g4)))
  have hX4 : Ext w3 w4 := ((Ext.refl w3).alloc _).grown g4 (fun q hq => by cases hq; omega)
  have hmv : MV w1 bs bu w1.heap.size (w1.heap.size + 1) w3.heap.size (.slice none 0 0) [] 0 w4 := ⟨hX3.trans hX4, b2.ext hX4, b3.ext hX4, c4, RowsT.nil _, Nat.zero_le _⟩
  clear c2 c3 c4 g2 g3 g4 hX2 hX4 b2 b3 hv2
  go_loopw [7, 8] (fun so i wr => ∃ (k : Nat) (o : Option (ByteArray × Int)) (ov : Value) (pso : List (Ro × Value)), k ≤ 30 ∧ k ≤ z.length ∧ i = .int .i64 k ∧ so = .string (mvS o) ∧ MV w1 bs bu w1.heap.size (w1.heap.size + 1) w3.heap.size ov pso 0 wr ∧ Hid (∀ V, o = some V → V.2 = k ∧ V.1.toList ≠ []) ∧ Hid (∀ d : Cl, 1 ≤ d.at_ → deltaRs dV dNs ⟨#[109]⟩ 0 ⟨#[109]⟩ 0 (pso.map (·.1)) [kRow d] = stepD dV 0 (kRow d) (mvM o) (mirOf dV dNs ⟨#[109]⟩ 0 (kRow d))) ∧ Hid (∀ p ∈ pso, p.1.cols.length ≤ 1000000)) (fun _ i _ => 30 - (intOf i).toNat)
  case atStart => exact ⟨0, none, _, [], by decide, Nat.zero_le _, rfl, rfl, hmv, nofun, fun d hd => delta_0 d, nofun⟩
  case round =>
    obtain ⟨k, o, ov, pso, hk30, hkz, rfl, rfl, hmv, HO, HD, HF⟩ := hrel
    obtain ⟨ao, co, rfl⟩ := hmv.rows.shape
    obtain ⟨no, hno⟩ : ∃ no, no = pso.length := ⟨_, rfl⟩
    rw [← hno] at hmv
    clear hno
    by_cases hkz' : k < z.length
    · by_cases hk30' : k < 30
      · obtain ⟨b, o', rfl, hat⟩ := ints_at19 (hin.ext hE1) k hkz'
        obtain ⟨x, hx⟩ : ∃ x, x = z.getD k 0 := ⟨_, rfl⟩
        rw [← hx] at hat
        clear hx
        have hat' := hmv.ext.cell hat
        have t1 : decide ((k : Int) < (z.length : Int)) = true := by simp; omega
        have t2 : decide ((k : Int) < (30 : Int)) = true := by simp; omega
        go_wp2_with fail
        refine (place_any x 4 (by decide) (by decide) wr).mono ?_
        rintro e w5 ⟨rfl, rfl⟩
        obtain ⟨kk, hkk⟩ : ∃ kk, kk = x % 4 := ⟨_, rfl⟩
        have hkk0 : 0 ≤ kk ∧ kk ≤ 3 := by omega
        rw [← hkk]
        clear hkk hat hat'
        go_wp2_with fail
        have hmvS : MV w1 bs bu w1.heap.size (w1.heap.size + 1) w3.heap.size (.slice ao no co) pso wr.heap.size wr := ⟨hmv.ext, hmv.tab, hmv.view, hmv.old, hmv.rows, Nat.le_refl _⟩
        have hl6 := hmv.old.lt
        have hle := hmv.ext.le
        clear hmv
        obtain ⟨D, hD⟩ : ∃ D : Bool, D = (kk == 3) := ⟨_, rfl⟩
        have HDD := Lib.hid hD
        clear hD
        refine wp_region_relE (MV w1 bs bu w1.heap.size (w1.heap.size + 1) w3.heap.size (.slice ao no co) pso wr.heap.size) (SE wr.heap.size 19) (TabP.at [(11, fun _ v y => ∃ b v', v = .agg #[.string ⟨#[109]⟩, .int .i64 0, .slice (some ⟨b, 0, none⟩) 1 1] ∧ RowsT y (.slice (some ⟨b, 0, none⟩) 1 1) [(kRow (oneC (mvV kk) (k + 1) D), v')]), (18, fun _ v y => ∃ b, v = .pointer (some ⟨b, 0, none⟩) ∧ wr.heap.size ≤ b ∧ ∃ Z, BoxAt y b Z 26 ∧ Z.size = 3), (19, fun A _ y => ∃ b Z, A = [.pointer (some ⟨b, 0, none⟩), .agg Z] ∧ BoxAt y b Z 26)])
          (TabP.staysE ⟨fun _ _ _ _ _ _ hR ⟨b, v', e, hr⟩ => ⟨b, v', e, SE_rows hR hr⟩, fun _ _ _ _ _ _ hR ⟨b, e, hb, hz⟩ => ⟨b, e, hb, SE_part hR hz⟩, fun _ _ hj _ _ _ hR ⟨b, Z, e, hb⟩ => ⟨b, Z, e, hb.ext (SE_off hj hR)⟩, trivial⟩)
          21 (by kernel_rfl) (by kernel_rfl) (by kernel_rfl) (hmvS.ext' (Ext.refl wr).drew) ?_
        refine relE_quiet rfl rfl rfl rfl ?_; intro K hK; go_big_quiet_op; (first | refine ⟨_, fun _ _ => rfl, hK _ ?_⟩ | refine hK _ ?_); clear hK K
        refine relE_quiet rfl rfl rfl rfl ?_; intro K hK; go_big_quiet_op; (first | refine ⟨_, fun _ _ => rfl, hK _ ?_⟩ | refine hK _ ?_); clear hK K
        refine relE_quiet rfl rfl rfl rfl ?_; intro K hK; go_big_quiet_op; (first | refine ⟨_, fun _ _ => rfl, hK _ ?_⟩ | refine hK _ ?_); clear hK K
        refine relE_quiet rfl rfl rfl rfl ?_; intro K hK; go_big_quiet_op; (first | refine ⟨_, fun _ _ => rfl, hK _ ?_⟩ | refine hK _ ?_); clear hK K
        refine relE_quiet rfl rfl rfl rfl ?_; intro K hK; go_big_quiet_op; (first | refine ⟨_, fun _ _ => rfl, hK _ ?_⟩ | refine hK _ ?_); clear hK K
        refine relE_quiet rfl rfl rfl rfl ?_; intro K hK; go_big_quiet_op; (first | refine ⟨_, fun _ _ => rfl, hK _ ?_⟩ | refine hK _ ?_); clear hK K
        refine relE_quiet rfl rfl rfl rfl ?_; intro K hK; go_big_quiet_op; (first | refine ⟨_, fun _ _ => rfl, hK _ ?_⟩ | refine hK _ ?_); clear hK K
        refine relE_quiet rfl rfl rfl rfl ?_; intro K hK; go_big_quiet_op; (first | refine ⟨_, fun _ _ => rfl, hK _ ?_⟩ | refine hK _ ?_); clear hK K
        refine relE_quiet rfl rfl rfl rfl ?_; intro K hK; go_big_quiet_op; (first | refine ⟨_, fun _ _ => rfl, hK _ ?_⟩ | refine hK _ ?_); clear hK K
        refine relE_quiet rfl rfl rfl rfl ?_; intro K hK; go_big_quiet_op; (first | refine ⟨_, fun _ _ => rfl, hK _ ?_⟩ | refine hK _ ?_); clear hK K
        refine relE_quiet rfl rfl rfl rfl ?_; intro K hK; go_big_quiet_op; (first | refine ⟨_, fun _ _ => rfl, hK _ ?_⟩ | refine hK _ ?_); clear hK K
        refine relE_fact [] rfl rfl rfl (by kernel_rfl) (fun y hy hf => ?_) (fun v11 z11 hC11 hG11 h11 => ?_)
        · go_simp
          rw [← HDD.out]
          refine (moves1_any (mvV kk) (k + 1) D y).mono ?_
          rintro e y' ⟨b, v', he, hr, hE'⟩
          exact ⟨_, he, hy.ext' hE', SE_ext (by decide) hE', b, rfl, v', hr⟩
        obtain ⟨bn, vn, rfl, h11⟩ := h11
        clear hC11 hG11 h11
        simp only [Act.put, List.setIfInBounds_toArray, List.set_cons_zero, List.set_cons_succ]
        refine relE_quiet rfl rfl rfl rfl ?_; intro K hK; go_big_quiet_op; (first | refine ⟨_, fun _ _ => rfl, hK _ ?_⟩ | refine hK _ ?_); clear hK K
        refine relE_quiet rfl rfl rfl rfl ?_; intro K hK; go_big_quiet_op; (first | refine ⟨_, fun _ _ => rfl, hK _ ?_⟩ | refine hK _ ?_); clear hK K
        refine relE_quiet rfl rfl rfl rfl ?_; intro K hK; go_big_quiet_op; (first | refine ⟨_, fun _ _ => rfl, hK _ ?_⟩ | refine hK _ ?_); clear hK K
        refine relE_quiet rfl rfl rfl rfl ?_; intro K hK; go_big_quiet_op; (first | refine ⟨_, fun _ _ => rfl, hK _ ?_⟩ | refine hK _ ?_); clear hK K
        refine relE_quiet rfl rfl rfl rfl ?_; intro K hK; go_big_quiet_op; (first | refine ⟨_, fun _ _ => rfl, hK _ ?_⟩ | refine hK _ ?_); clear hK K
        refine relE_quiet rfl rfl rfl rfl ?_; intro K hK; go_big_quiet_op; (first | refine ⟨_, fun _ _ => rfl, hK _ ?_⟩ | refine hK _ ?_); clear hK K
        refine relE_fact [] rfl rfl rfl (by kernel_rfl) (fun y hy hf => ?_) (fun v6 z6 hC6 hG6 h6 => ?_)
        · go_simp
          exact ⟨hy.ext' ((Ext.refl y).alloc _), SE_ext (by decide) ((Ext.refl y).alloc _), _, rfl, hy.size, _, BoxAt.made y _ _, rfl⟩
        obtain ⟨b12, rfl, _, _⟩ := h6
        clear hC6 hG6
        simp only [Act.put, List.setIfInBounds_toArray, List.set_cons_zero, List.set_cons_succ]
        refine relE_factP [18] rfl rfl rfl (by kernel_rfl) (fun y hy hf => ?_) (fun v6 z6 hC6 hG6 h6 => ?_)
        · obtain ⟨b, e, hb, Z, hbox, hZ⟩ := (hf 18 (by simp)).2 rfl
          cases e
          refine yields_storeBox 26 (.tmp 10) (.tmp 45) rfl b12 #[.string ⟨#[109]⟩, .int .i64 0, .slice (some ⟨bn, 0, none⟩) 1 1] Z _ rfl rfl hbox (by kernel_rfl) hZ (by simp [Value.oneCell']) ?_
          intro y' hb' hg'
          have hR : SE wr.heap.size 19 19 y y' := SE_at hb hbox hb' rfl hg'
          have hl3' : w3.heap.size < wr.heap.size := hl6
          exact ⟨⟨SE_to hle hR hy.ext, SE_box hR (by decide) hy.tab, SE_box hR (by decide) hy.view, SE_old hR hl6 hy.old, SE_rows hR hy.rows, Nat.le_trans hy.size (SE_size hR)⟩, hR, b12, _, rfl, hb'⟩
        clear h6 hC6 hG6
        simp only [Act.put, List.setIfInBounds_toArray, List.set_cons_zero, List.set_cons_succ]
        refine relE_quiet rfl rfl rfl rfl ?_; intro K hK; go_big_quiet_op; (first | refine ⟨_, fun _ _ => rfl, hK _ ?_⟩ | refine hK _ ?_); clear hK K
        refine relE_nil fun w9 hC hG => ?_
        obtain ⟨b11, v11, e11, hrn⟩ := (hG 11).1.1.2 rfl
        obtain ⟨b13, Z13, e13, hbn⟩ := (hG 19).2 rfl
        have e13' : [Value.pointer (some ⟨b12, 0, none⟩), Value.agg #[.string ⟨#[109]⟩, .int .i64 0, .slice (some ⟨bn, 0, none⟩) 1 1]] = [.pointer (some ⟨b13, 0, none⟩), .agg Z13] := e13
        cases e13'
        cases e11
        have hmv9 : MV w1 bs bu w1.heap.size (w1.heap.size + 1) w3.heap.size (.slice ao no co) pso 0 w9 := ⟨hC.ext, hC.tab, hC.view, hC.old, hC.rows, Nat.zero_le _⟩
        have hne12 : wr.heap.size ≤ w9.heap.size := hC.size
        obtain ⟨V, hV⟩ : ∃ V, V = mvV kk := ⟨_, rfl⟩
        have hVne : V.toList ≠ [] := by rw [hV]; exact mvV_ne kk
        rw [show (⟨#[120, 121, 122]⟩ : ByteArray).extract (kk % 3).toNat (kk % 3 + 1).toNat = V from hV.symm]
        rw [← hV] at hrn
        clear hC hG e13 hmvS hV
        have t0 : w9.cell? ⟨w1.heap.size, 0, none⟩ = some (.string ⟨#[116]⟩) := hmv9.tab.cell 0
        have t1' : w9.cell? ⟨w1.heap.size, 1, none⟩ = some (.int .i64 1) := hmv9.tab.cell 1
        have t2' : w9.cell? ⟨w1.heap.size, 2, none⟩ = some (.string ⟨#[112]⟩) := hmv9.tab.cell 2
        have t3 : w9.cell? ⟨w1.heap.size, 3, none⟩ = some (.int .i64 1) := hmv9.tab.cell 3
        have t4 : w9.cell? ⟨w1.heap.size, 4, none⟩ = some (.string ⟨#[107]⟩) := hmv9.tab.cell 4
        have t5 : w9.cell? ⟨w1.heap.size, 5, none⟩ = some (.int .i64 2) := hmv9.tab.cell 5
        have t6 : w9.cell? ⟨w1.heap.size, 6, none⟩ = some (.slice (some ⟨bs, 0, none⟩) 4 4) := hmv9.tab.cell 6
        have q0 := hmv9.view.vw
        have q1 := hmv9.old.pa
        have q2 := hbn.pa (k := ⟨#[109]⟩) (g := 0) (u := .slice (some ⟨bn, 0, none⟩) 1 1)
        have hVe : V.toList.isEmpty = false := by
          cases h : V.toList with
          | nil => exact absurd h hVne
          | cons x l => rfl
        have hvk : (1 : Int) ≤ (k : Int) + 1 := by omega
        by_cases h3 : kk = 3
        · cases o with
          | none =>
            have hkb : (kk == 3) = true := by simp [h3]
            have hD : D = true := by rw [HDD.out, hkb]
            subst hD
            clear h3
            rw [show mvS none = ⟨#[]⟩ from rfl]
            go_wp2_with fail
            refine (deltaOf_any (.slice (some ⟨bs, 0, none⟩) 4 4) dV (.slice (some ⟨bu, 0, none⟩) 2 2) dNs ⟨#[109]⟩ 0 _ pso ⟨#[109]⟩ 0 _ _ w9 hmv9.rows.rows hrn.rows (hns.ext hmv9.ext) HF.out (one_few _ _) (by show 1 ≤ 10000; decide) (by decide) (by decide) (one_keys _ _)).mono ?_
            rintro e w10 ⟨v10, rfl, L, hown, hrows, hdata, hE10⟩
            replace hdata : L.map Pa.data = outP (deltaRs dV dNs ⟨#[109]⟩ 0 ⟨#[109]⟩ 0 (pso.map (·.1)) [kRow (oneC V (k + 1) true)]) := hdata
            rw [HD.out _ (by exact hvk), mir_dead _ hvk] at hdata
            have hL : L = [] := by
              have h := hdata
              simp [stepD, mvM, outP] at h
              exact h
            subst hL
            obtain ⟨ad, cd, rfl⟩ := own_shape hown
            have hmv10 := hmv9.ext' hE10
            have hbn10 := hbn.ext hE10
            have hrn10 := hrn.ext hE10
            have q3 := hbn10.pa (k := ⟨#[109]⟩) (g := 0) (u := .slice (some ⟨bn, 0, none⟩) 1 1)
            clear t0 t1' t2' t3 t4 t5 t6 q0 q1 q2
            go_wp2_with ((guard_target =~ wpList _ _ _ (Oper.mk none (Op.store _ (Operand.tmp 6) (Operand.tmp 204)) _ _ _ _ :: _) _ _); go_must (refine storeBox rfl 26 (.tmp 6) (.tmp 204) rfl (w3.heap.size) _ _ _ (by rfl) (by rfl) (hmv10.old) (by kernel_rfl) (by rfl) (by simp [Value.oneCell']) ?_); intro w11 c11 g11)
            have hl3'' := hX3.le
            go_roundw
            case rel =>
              refine ⟨k + 1, none, _, _, by omega, by omega, rfl, rfl, ⟨hmv10.ext.grown g11 (fun q hq => by cases hq; omega), hmv10.tab.grown g11 (fun e => by have := Option.some.inj e; omega), hmv10.view.grown g11 (fun e => by have := Option.some.inj e; omega), c11, hrn10.keep g11 hmv10.old (by decide) (by decide), Nat.zero_le _⟩, (fun V h => by cases h), (fun d hd => by show deltaRs _ _ _ _ _ _ [kRow (oneC V (k + 1) true)] [kRow d] = _; rw [delta_k, mir_dead _ hvk]; rfl), one_few _ _⟩
            case measure => simp [intOf]; omega
          | some p =>
            have hkb : (kk == 3) = true := by simp [h3]
            have hD : D = true := by rw [HDD.out, hkb]
            subst hD
            clear h3
            rw [show mvS (some p) = p.1 from rfl]
            have hp1 : p.1.toList ≠ [] := (HO.out p rfl).2
            have hpe : p.1.toList.isEmpty = false := by
              cases h : p.1.toList with
              | nil => exact absurd h hp1
              | cons x l => rfl
            go_wp2_with fail
            refine (deltaOf_any (.slice (some ⟨bs, 0, none⟩) 4 4) dV (.slice (some ⟨bu, 0, none⟩) 2 2) dNs ⟨#[109]⟩ 0 _ pso ⟨#[109]⟩ 0 _ _ w9 hmv9.rows.rows hrn.rows (hns.ext hmv9.ext) HF.out (one_few _ _) (by show 1 ≤ 10000; decide) (by decide) (by decide) (one_keys _ _)).mono ?_
            rintro e w10 ⟨v10, rfl, L, hown, hrows, hdata, hE10⟩
            replace hdata : L.map Pa.data = outP (deltaRs dV dNs ⟨#[109]⟩ 0 ⟨#[109]⟩ 0 (pso.map (·.1)) [kRow (oneC V (k + 1) true)]) := hdata
            rw [HD.out _ (by exact hvk), mir_dead _ hvk] at hdata
            replace hdata : L.map Pa.data = outP [(p.1, (⟨vkey ⟨#[109]⟩ ⟨#[107]⟩, zeroCl, 0, p.2, [⟨⟨#[97]⟩, oneC V (k + 1) true⟩]⟩ : Ro))] := by
              rw [hdata]
              show outP [(p.1, leftRo dV _ (kRow _) 0)] = _
              rw [left_k _ _ (by exact hvk)]
              rfl
            obtain ⟨ad, cd, rfl, hdc1, hdc2, hat⟩ := parts_at (⟨TIn.own hown, hrows⟩ : PartsT w10 v10 L) hdata
            clear hp1
            obtain ⟨bd, br, cr, vm, eb, K0, R0, hro, hcc⟩ := hat 0 (Nat.succ_pos _)
            cases eb
            replace K0 : w10.cell? ⟨bd, 0, none⟩ = some (.string p.1) := K0
            replace R0 : w10.cell? ⟨bd, 2, none⟩ = some (.slice (some ⟨br, 0, none⟩) 1 cr) := R0
            have S0 : w10.cell? ⟨br, 6, none⟩ = some (.int .i64 p.2) := hro.c6
            have S1 : w10.cell? ⟨br, 3, none⟩ = some (.int .i64 0) := hro.c3
            obtain ⟨ac, ccc, ec, _, _, hcg⟩ := hcc.get
            obtain ⟨bcl, ocl, ecl, hco⟩ := hcg 0 (Nat.succ_pos _)
            subst ecl
            have S2 : w10.cell? ⟨br, 7, none⟩ = some vm := hro.c7
            rw [ec] at S2
            replace S2 : w10.cell? ⟨br, 7, none⟩ = some (.slice (some ⟨bcl, ocl, none⟩) 1 ccc) := S2
            have S3 : w10.cell? ⟨bcl, ocl, none⟩ = some (.string ⟨#[97]⟩) := by have := hco.c0; simp only [Nat.zero_mul, Nat.add_zero] at this; exact this
            have S4 : w10.cell? ⟨bcl, ocl + 3, none⟩ = some (.int .i64 (k + 1)) := by have := hco.c3; simp only [Nat.zero_mul, Nat.add_zero] at this; exact this
            have hp2 : p.2 = k := (HO.out p rfl).1
            have hp1 : p.1.toList ≠ [] := (HO.out p rfl).2
            rw [hp2] at S0
            clear hro hco hcg hcc hat
            have hmv10 := hmv9.ext' hE10
            have hbn10 := hbn.ext hE10
            have hrn10 := hrn.ext hE10
            have q3 := hbn10.pa (k := ⟨#[109]⟩) (g := 0) (u := .slice (some ⟨bn, 0, none⟩) 1 1)
            clear t0 t1' t2' t3 t4 t5 t6 q0 q1 q2
            go_wp2_with ((guard_target =~ wpList _ _ _ (Oper.mk none (Op.store _ (Operand.tmp 6) (Operand.tmp 204)) _ _ _ _ :: _) _ _); go_must (refine storeBox rfl 26 (.tmp 6) (.tmp 204) rfl (w3.heap.size) _ _ _ (by rfl) (by rfl) (hmv10.old) (by kernel_rfl) (by rfl) (by simp [Value.oneCell']) ?_); intro w11 c11 g11)
            have hl3'' := hX3.le
            go_roundw
            case rel =>
              refine ⟨k + 1, none, _, _, by omega, by omega, rfl, rfl, ⟨hmv10.ext.grown g11 (fun q hq => by cases hq; omega), hmv10.tab.grown g11 (fun e => by have := Option.some.inj e; omega), hmv10.view.grown g11 (fun e => by have := Option.some.inj e; omega), c11, hrn10.keep g11 hmv10.old (by decide) (by decide), Nat.zero_le _⟩, (fun V h => by cases h), (fun d hd => by show deltaRs _ _ _ _ _ _ [kRow (oneC V (k + 1) true)] [kRow d] = _; rw [delta_k, mir_dead _ hvk]; rfl), one_few _ _⟩
            case measure => simp [intOf]; omega
        · cases o with
          | none =>
            have hkb : (kk == 3) = false := by simp [h3]
            have hD : D = false := by rw [HDD.out, hkb]
            subst hD
            clear h3
            rw [show mvS none = ⟨#[]⟩ from rfl]
            go_wp2_with fail
            refine (deltaOf_any (.slice (some ⟨bs, 0, none⟩) 4 4) dV (.slice (some ⟨bu, 0, none⟩) 2 2) dNs ⟨#[109]⟩ 0 _ pso ⟨#[109]⟩ 0 _ _ w9 hmv9.rows.rows hrn.rows (hns.ext hmv9.ext) HF.out (one_few _ _) (by show 1 ≤ 10000; decide) (by decide) (by decide) (one_keys _ _)).mono ?_
            rintro e w10 ⟨v10, rfl, L, hown, hrows, hdata, hE10⟩
            replace hdata : L.map Pa.data = outP (deltaRs dV dNs ⟨#[109]⟩ 0 ⟨#[109]⟩ 0 (pso.map (·.1)) [kRow (oneC V (k + 1) false)]) := hdata
            rw [HD.out _ (by exact hvk), mir_live _ hvk] at hdata
            replace hdata : L.map Pa.data = outP [(V, kMir ⟨V, false, k + 1, 0⟩)] := hdata
            obtain ⟨ad, cd, rfl, hdc1, hdc2, hat⟩ := parts_at (⟨TIn.own hown, hrows⟩ : PartsT w10 v10 L) hdata
            obtain ⟨bq, br2, cr2, vm2, eq2, K1, R1, hro2, _⟩ := hat 0 (Nat.succ_pos _)
            cases eq2
            replace K1 : w10.cell? ⟨bq, 0, none⟩ = some (.string V) := K1
            replace R1 : w10.cell? ⟨bq, 2, none⟩ = some (.slice (some ⟨br2, 0, none⟩) 1 cr2) := R1
            have U0 : w10.cell? ⟨br2, 3, none⟩ = some (.int .i64 (k + 1)) := hro2.c3
            have U1 : w10.cell? ⟨br2, 6, none⟩ = some (.int .i64 0) := hro2.c6
            clear hro2 hat
            have hmv10 := hmv9.ext' hE10
            have hbn10 := hbn.ext hE10
            have hrn10 := hrn.ext hE10
            have q3 := hbn10.pa (k := ⟨#[109]⟩) (g := 0) (u := .slice (some ⟨bn, 0, none⟩) 1 1)
            clear t0 t1' t2' t3 t4 t5 t6 q0 q1 q2
            go_wp2_with ((guard_target =~ wpList _ _ _ (Oper.mk none (Op.store _ (Operand.tmp 6) (Operand.tmp 204)) _ _ _ _ :: _) _ _); go_must (refine storeBox rfl 26 (.tmp 6) (.tmp 204) rfl (w3.heap.size) _ _ _ (by rfl) (by rfl) (hmv10.old) (by kernel_rfl) (by rfl) (by simp [Value.oneCell']) ?_); intro w11 c11 g11)
            have hl3'' := hX3.le
            go_roundw
            case rel =>
              refine ⟨k + 1, some (V, (k : Int) + 1), _, _, by omega, by omega, rfl, rfl, ⟨hmv10.ext.grown g11 (fun q hq => by cases hq; omega), hmv10.tab.grown g11 (fun e => by have := Option.some.inj e; omega), hmv10.view.grown g11 (fun e => by have := Option.some.inj e; omega), c11, hrn10.keep g11 hmv10.old (by decide) (by decide), Nat.zero_le _⟩, (fun W h => by cases h; exact ⟨by simp, hVne⟩), (fun d hd => by show deltaRs _ _ _ _ _ _ [kRow (oneC V (k + 1) false)] [kRow d] = _; rw [delta_k, mir_live _ hvk]; rfl), one_few _ _⟩
            case measure => simp [intOf]; omega
          | some p =>
            by_cases hpV : p.1 = V
            · skip
              have hkb : (kk == 3) = false := by simp [h3]
              have hD : D = false := by rw [HDD.out, hkb]
              subst hD
              clear h3
              rw [show mvS (some p) = p.1 from rfl]
              have hp1 : p.1.toList ≠ [] := (HO.out p rfl).2
              have hpe : p.1.toList.isEmpty = false := by
                cases h : p.1.toList with
                | nil => exact absurd h hp1
                | cons x l => rfl
              have hpb : (p.1.toList == V.toList) = true := by simp [hpV]
              go_wp2_with fail
              refine (deltaOf_any (.slice (some ⟨bs, 0, none⟩) 4 4) dV (.slice (some ⟨bu, 0, none⟩) 2 2) dNs ⟨#[109]⟩ 0 _ pso ⟨#[109]⟩ 0 _ _ w9 hmv9.rows.rows hrn.rows (hns.ext hmv9.ext) HF.out (one_few _ _) (by show 1 ≤ 10000; decide) (by decide) (by decide) (one_keys _ _)).mono ?_
              rintro e w10 ⟨v10, rfl, L, hown, hrows, hdata, hE10⟩
              replace hdata : L.map Pa.data = outP (deltaRs dV dNs ⟨#[109]⟩ 0 ⟨#[109]⟩ 0 (pso.map (·.1)) [kRow (oneC V (k + 1) false)]) := hdata
              rw [HD.out _ (by exact hvk), mir_live _ hvk] at hdata
              replace hdata : L.map Pa.data = outP [(V, kMir ⟨V, false, k + 1, 0⟩)] := by
                rw [hdata]
                show outP (if eqB p.1 V then (if eqB (p.1, kMir ⟨p.1, false, p.2, 0⟩) (V, kMir ⟨V, false, k + 1, 0⟩) then [] else [(V, kMir ⟨V, false, k + 1, 0⟩)]) else _) = _
                rw [eqB_true hpV, if_pos rfl, eqB_false (fun e => by have h1 := congrArg (fun t => t.2.live.at_) e; have h2 := (HO.out p rfl).1; simp [kMir] at h1; omega), if_neg (by decide)]
              obtain ⟨ad, cd, rfl, hdc1, hdc2, hat⟩ := parts_at (⟨TIn.own hown, hrows⟩ : PartsT w10 v10 L) hdata
              obtain ⟨bq, br2, cr2, vm2, eq2, K1, R1, hro2, _⟩ := hat 0 (Nat.succ_pos _)
              cases eq2
              replace K1 : w10.cell? ⟨bq, 0, none⟩ = some (.string V) := K1
              replace R1 : w10.cell? ⟨bq, 2, none⟩ = some (.slice (some ⟨br2, 0, none⟩) 1 cr2) := R1
              have U0 : w10.cell? ⟨br2, 3, none⟩ = some (.int .i64 (k + 1)) := hro2.c3
              have U1 : w10.cell? ⟨br2, 6, none⟩ = some (.int .i64 0) := hro2.c6
              clear hro2 hat
              have hmv10 := hmv9.ext' hE10
              have hbn10 := hbn.ext hE10
              have hrn10 := hrn.ext hE10
              have q3 := hbn10.pa (k := ⟨#[109]⟩) (g := 0) (u := .slice (some ⟨bn, 0, none⟩) 1 1)
              clear t0 t1' t2' t3 t4 t5 t6 q0 q1 q2
              go_wp2_with ((guard_target =~ wpList _ _ _ (Oper.mk none (Op.store _ (Operand.tmp 6) (Operand.tmp 204)) _ _ _ _ :: _) _ _); go_must (refine storeBox rfl 26 (.tmp 6) (.tmp 204) rfl (w3.heap.size) _ _ _ (by rfl) (by rfl) (hmv10.old) (by kernel_rfl) (by rfl) (by simp [Value.oneCell']) ?_); intro w11 c11 g11)
              have hl3'' := hX3.le
              go_roundw
              case rel =>
                refine ⟨k + 1, some (V, (k : Int) + 1), _, _, by omega, by omega, rfl, rfl, ⟨hmv10.ext.grown g11 (fun q hq => by cases hq; omega), hmv10.tab.grown g11 (fun e => by have := Option.some.inj e; omega), hmv10.view.grown g11 (fun e => by have := Option.some.inj e; omega), c11, hrn10.keep g11 hmv10.old (by decide) (by decide), Nat.zero_le _⟩, (fun W h => by cases h; exact ⟨by simp, hVne⟩), (fun d hd => by show deltaRs _ _ _ _ _ _ [kRow (oneC V (k + 1) false)] [kRow d] = _; rw [delta_k, mir_live _ hvk]; rfl), one_few _ _⟩
              case measure => simp [intOf]; omega
            · skip
              have hkb : (kk == 3) = false := by simp [h3]
              have hD : D = false := by rw [HDD.out, hkb]
              subst hD
              clear h3
              rw [show mvS (some p) = p.1 from rfl]
              have hp1 : p.1.toList ≠ [] := (HO.out p rfl).2
              have hpe : p.1.toList.isEmpty = false := by
                cases h : p.1.toList with
                | nil => exact absurd h hp1
                | cons x l => rfl
              have hpb : (p.1.toList == V.toList) = false := by simp; exact fun e => hpV (bytes_ext e)
              go_wp2_with fail
              refine (deltaOf_any (.slice (some ⟨bs, 0, none⟩) 4 4) dV (.slice (some ⟨bu, 0, none⟩) 2 2) dNs ⟨#[109]⟩ 0 _ pso ⟨#[109]⟩ 0 _ _ w9 hmv9.rows.rows hrn.rows (hns.ext hmv9.ext) HF.out (one_few _ _) (by show 1 ≤ 10000; decide) (by decide) (by decide) (one_keys _ _)).mono ?_
              rintro e w10 ⟨v10, rfl, L, hown, hrows, hdata, hE10⟩
              replace hdata : L.map Pa.data = outP (deltaRs dV dNs ⟨#[109]⟩ 0 ⟨#[109]⟩ 0 (pso.map (·.1)) [kRow (oneC V (k + 1) false)]) := hdata
              rw [HD.out _ (by exact hvk), mir_live _ hvk] at hdata
              replace hdata : L.map Pa.data = outP [(p.1, (⟨vkey ⟨#[109]⟩ ⟨#[107]⟩, zeroCl, 0, p.2, [⟨⟨#[97]⟩, oneC V (k + 1) false⟩]⟩ : Ro)), (V, kMir ⟨V, false, k + 1, 0⟩)] := by
                rw [hdata]
                show outP (if eqB p.1 V then _ else [(p.1, leftRo dV _ (kRow _) 0), (V, kMir ⟨V, false, k + 1, 0⟩)]) = _
                rw [eqB_false hpV, if_neg (by decide), left_k _ _ (by exact hvk)]
                rfl
              obtain ⟨ad, cd, rfl, hdc1, hdc2, hat⟩ := parts_at (⟨TIn.own hown, hrows⟩ : PartsT w10 v10 L) hdata
              clear hp1
              have hat2 := hat
              obtain ⟨bd, br, cr, vm, eb, K0, R0, hro, hcc⟩ := hat 0 (Nat.succ_pos _)
              cases eb
              replace K0 : w10.cell? ⟨bd, 0, none⟩ = some (.string p.1) := K0
              replace R0 : w10.cell? ⟨bd, 2, none⟩ = some (.slice (some ⟨br, 0, none⟩) 1 cr) := R0
              have S0 : w10.cell? ⟨br, 6, none⟩ = some (.int .i64 p.2) := hro.c6
              have S1 : w10.cell? ⟨br, 3, none⟩ = some (.int .i64 0) := hro.c3
              obtain ⟨ac, ccc, ec, _, _, hcg⟩ := hcc.get
              obtain ⟨bcl, ocl, ecl, hco⟩ := hcg 0 (Nat.succ_pos _)
              subst ecl
              have S2 : w10.cell? ⟨br, 7, none⟩ = some vm := hro.c7
              rw [ec] at S2
              replace S2 : w10.cell? ⟨br, 7, none⟩ = some (.slice (some ⟨bcl, ocl, none⟩) 1 ccc) := S2
              have S3 : w10.cell? ⟨bcl, ocl, none⟩ = some (.string ⟨#[97]⟩) := by have := hco.c0; simp only [Nat.zero_mul, Nat.add_zero] at this; exact this
              have S4 : w10.cell? ⟨bcl, ocl + 3, none⟩ = some (.int .i64 (k + 1)) := by have := hco.c3; simp only [Nat.zero_mul, Nat.add_zero] at this; exact this
              have hp2 : p.2 = k := (HO.out p rfl).1
              have hp1 : p.1.toList ≠ [] := (HO.out p rfl).2
              rw [hp2] at S0
              clear hro hco hcg hcc hat
              have hat := hat2
              clear hat2
              obtain ⟨bq, br2, cr2, vm2, eq2, K1, R1, hro2, _⟩ := hat 1 (Nat.lt_succ_self 1)
              cases eq2
              replace K1 : w10.cell? ⟨bd, 3, none⟩ = some (.string V) := K1
              replace R1 : w10.cell? ⟨bd, 5, none⟩ = some (.slice (some ⟨br2, 0, none⟩) 1 cr2) := R1
              have U0 : w10.cell? ⟨br2, 3, none⟩ = some (.int .i64 (k + 1)) := hro2.c3
              have U1 : w10.cell? ⟨br2, 6, none⟩ = some (.int .i64 0) := hro2.c6
              clear hro2 hat
              have hmv10 := hmv9.ext' hE10
              have hbn10 := hbn.ext hE10
              have hrn10 := hrn.ext hE10
              have q3 := hbn10.pa (k := ⟨#[109]⟩) (g := 0) (u := .slice (some ⟨bn, 0, none⟩) 1 1)
              clear t0 t1' t2' t3 t4 t5 t6 q0 q1 q2
              go_wp2_with ((guard_target =~ wpList _ _ _ (Oper.mk none (Op.store _ (Operand.tmp 6) (Operand.tmp 204)) _ _ _ _ :: _) _ _); go_must (refine storeBox rfl 26 (.tmp 6) (.tmp 204) rfl (w3.heap.size) _ _ _ (by rfl) (by rfl) (hmv10.old) (by kernel_rfl) (by rfl) (by simp [Value.oneCell']) ?_); intro w11 c11 g11)
              have hl3'' := hX3.le
              go_roundw
              case rel =>
                refine ⟨k + 1, some (V, (k : Int) + 1), _, _, by omega, by omega, rfl, rfl, ⟨hmv10.ext.grown g11 (fun q hq => by cases hq; omega), hmv10.tab.grown g11 (fun e => by have := Option.some.inj e; omega), hmv10.view.grown g11 (fun e => by have := Option.some.inj e; omega), c11, hrn10.keep g11 hmv10.old (by decide) (by decide), Nat.zero_le _⟩, (fun W h => by cases h; exact ⟨by simp, hVne⟩), (fun d hd => by show deltaRs _ _ _ _ _ _ [kRow (oneC V (k + 1) false)] [kRow d] = _; rw [delta_k, mir_live _ hvk]; rfl), one_few _ _⟩
              case measure => simp [intOf]; omega
      · skip
        go_wp2_with fail
        refine (awake19_any wr).mono ?_
        rintro e w5 ⟨rfl, hE5⟩
        go_wp2_with fail
        go_ret
        exact ⟨rfl, (hE1.trans hmv.ext).trans hE5⟩
    · skip
      go_wp2_with fail
      refine (awake19_any wr).mono ?_
      rintro e w5 ⟨rfl, hE5⟩
      go_wp2_with fail
      go_ret
      exact ⟨rfl, (hE1.trans hmv.ext).trans hE5⟩
theorem walk_deltaMoves (v : Value) (W : World) (w0 : ∃ l : List Int, IntsIn W v .i64 l ∧ ∀ n ∈ l, (Lit.int .i64 n).wf = true) :
    Calls Try.prog 7 #[v] W fun e w' => e = .returned (.bool true) ∧ Ext W w' := by
  obtain ⟨z, hin, _⟩ := w0
  exact law_deltaMoves v z W hin
end Go.Proofs.Ytbjpfhkdlljgdaa
