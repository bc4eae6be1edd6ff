/- Cells by numbers may be; the names of columns rise. -/
import Derived.Test.YtdkkbglfipkmdaaDoorA14
import Derived.Test.YtdkkbglfipkmdaaDoorA12
import Derived.Test.YtdkkbglfipkmdaaDoorA10
import Derived.Test.YtdkkbglfipkmdaaDoorA1
set_option linter.unusedSimpArgs false
set_option linter.unusedVariables false
namespace Go.Proofs.YtdkkbglfipkmdaaDoor
open Go Go.RowKit

theorem cellN_ok (n : Int) (h0 : 0 ≤ n) : checkC (cellN n).val (cellN n).dead (cellN n).at_ (cellN n).fin = true ∧ 0 < (cellN n).at_ := by
  have xs : ∀ i : Nat, i < 3 → ((⟨#[120, 121, 122]⟩ : ByteArray).extract i (i + 1)).size = 1 := by decide
  unfold cellN
  split
  · unfold checkC stampB
    have h1 : ¬ 1 + n % 7 = 0 := by omega
    simp [h1]
    omega
  · have e1 : (n / 28 % 3 + 1).toNat = (n / 28 % 3).toNat + 1 := by omega
    have e2 := xs (n / 28 % 3).toNat (by omega)
    rw [← e1] at e2
    have h1 : ¬ 1 + n % 7 = 0 := by omega
    unfold checkC stampB
    simp [h1, e2]
    split <;> omega
theorem nm_less (j k : Nat) (h : j < k) (hk : k < 4) : Op.bytesLess (nmK j).toList (nmK k).toList = true := by
  obtain ⟨rfl, rfl⟩ | ⟨rfl, rfl⟩ | ⟨rfl, rfl⟩ | ⟨rfl, rfl⟩ | ⟨rfl, rfl⟩ | ⟨rfl, rfl⟩ : (j = 0 ∧ k = 1) ∨ (j = 0 ∧ k = 2) ∨ (j = 0 ∧ k = 3) ∨ (j = 1 ∧ k = 2) ∨ (j = 1 ∧ k = 3) ∨ (j = 2 ∧ k = 3) := by omega
  all_goals (simp only [nmK, ByteArray.toList_eq]; decide)
end Go.Proofs.YtdkkbglfipkmdaaDoor

/- Partitions by numbers may be. -/
namespace Go.Proofs.YtdkkbglfipkmdaaDoor
open Go Go.RowKit

def lastC (p : Option ByteArray) : List Co → Option ByteArray
  | [] => p
  | c :: l => lastC (some c.name) l
theorem csB_snoc (c : Co) : ∀ (l : List Co) (p : Option ByteArray), csB p (l ++ [c]) = (csB p l && (nameB c.name && orB (lastC p l) c.name && checkC c.cell.val c.cell.dead c.cell.at_ c.cell.fin && decide (0 < c.cell.at_)))
  | [], p => by simp [csB, lastC]
  | d :: l, p => by rw [List.cons_append, csB_cons, csB_snoc c l, csB_cons]; simp only [lastC, Bool.and_assoc]
theorem lastC_snoc (c : Co) : ∀ (l : List Co) (p : Option ByteArray), lastC p (l ++ [c]) = some c.name
  | [], _ => rfl
  | _ :: l, _ => lastC_snoc c l _
theorem nm_name (k : Nat) : nameB (nmK k) = true := by
  match k with
  | 0 => decide
  | 1 => decide
  | 2 => decide
  | k + 3 => exact (by decide : nameB (⟨#[100]⟩ : ByteArray) = true)
theorem gen_csB {k : Nat} {l : List Co} (h : GenCols k l) : k ≤ 4 → csB none l = true ∧ (lastC none l = none ∨ ∃ j, j < k ∧ lastC none l = some (nmK j)) := by
  induction h with
  | nil => intro _; exact ⟨rfl, .inl rfl⟩
  | skip _ ih =>
    intro hk
    obtain ⟨h1, h2⟩ := ih (by omega)
    exact ⟨h1, h2.imp id fun ⟨j, hj, e⟩ => ⟨j, by omega, e⟩⟩
  | @put k l n _ hn ih =>
    intro hk
    obtain ⟨h1, h2⟩ := ih (by omega)
    obtain ⟨c1, c2⟩ := cellN_ok n hn
    refine ⟨?_, .inr ⟨k, by omega, lastC_snoc _ l none⟩⟩
    rw [csB_snoc, h1]
    have ho : orB (lastC none l) (nmK k) = true := by
      rcases h2 with e | ⟨j, hj, e⟩
      · rw [e]; rfl
      · rw [e]; exact nm_less j k hj (by omega)
    simp only [ho, c1, nm_name, Bool.true_and]
    simpa using c2
theorem gen_rwB {r : Ro} (h : GenRow r) (hk : r.key.size ≤ 400) : rwB r = true := by
  obtain ⟨⟨l1, l2, l3⟩, ⟨g0, g1⟩, h3, h4⟩ := h
  have hc := gen_csB h4 (Nat.le_refl _)
  have hlen := h4.len
  unfold rwB
  rw [hc.1, Bool.and_true]
  unfold hdB
  obtain ⟨key, ⟨val, dead, at_, fin⟩, gone, shade, cols⟩ := r
  simp only at l1 l2 l3 g0 g1 h3 hlen hk ⊢
  subst l1 l2 h3
  have e0 : (⟨#[]⟩ : ByteArray).toList = [] := by rw [ByteArray.toList_eq]
  unfold checkC stampB
  rw [e0]
  rcases l3 with ⟨rfl, rfl⟩ | ⟨a1, a2, a3, a4⟩
  · simp
    omega
  · have h1 : ¬ at_ = 0 := by omega
    have h2 : (⟨#[]⟩ : ByteArray).size ≤ 100 := by decide
    simp [h1, h2]
    omega
theorem ik_less (j k : Nat) (h : j < k) (hk : k < 4) : Op.bytesLess (ik j).toList (ik k).toList = true := by
  obtain ⟨rfl, rfl⟩ | ⟨rfl, rfl⟩ | ⟨rfl, rfl⟩ | ⟨rfl, rfl⟩ | ⟨rfl, rfl⟩ | ⟨rfl, rfl⟩ : (j = 0 ∧ k = 1) ∨ (j = 0 ∧ k = 2) ∨ (j = 0 ∧ k = 3) ∨ (j = 1 ∧ k = 2) ∨ (j = 1 ∧ k = 3) ∨ (j = 2 ∧ k = 3) := by omega
  all_goals (simp only [ik, str_list]; decide)
theorem ik_size (k : Nat) : (ik k).size = 8 := by unfold ik int8; rw [str_size, beB_length]
def lastR (p : Option ByteArray) : List Ro → Option ByteArray
  | [] => p
  | c :: l => lastR (some c.key) l
theorem rsB_snoc (c : Ro) : ∀ (l : List Ro) (p : Option ByteArray), rsB p (l ++ [c]) = (rsB p l && (rwB c && orB (lastR p l) c.key))
  | [], p => by simp [rsB, lastR]
  | d :: l, p => by
    rw [List.cons_append]
    unfold rsB
    rw [rsB_snoc c l]
    simp only [lastR, Bool.and_assoc]
theorem lastR_snoc (c : Ro) : ∀ (l : List Ro) (p : Option ByteArray), lastR p (l ++ [c]) = some c.key
  | [], _ => rfl
  | _ :: l, _ => lastR_snoc c l _
theorem gen_rsB {k : Nat} {l : List Ro} (h : GenRows k l) : k ≤ 4 → rsB none l = true ∧ (lastR none l = none ∨ ∃ j, j < k ∧ lastR none l = some (ik j)) := by
  induction h with
  | nil => intro _; exact ⟨rfl, .inl rfl⟩
  | skip _ ih =>
    intro hk
    obtain ⟨h1, h2⟩ := ih (by omega)
    exact ⟨h1, h2.imp id fun ⟨j, hj, e⟩ => ⟨j, by omega, e⟩⟩
  | @put k l r _ hr hkey ih =>
    intro hk
    obtain ⟨h1, h2⟩ := ih (by omega)
    refine ⟨?_, .inr ⟨k, by omega, by rw [lastR_snoc, hkey]⟩⟩
    rw [rsB_snoc, h1, gen_rwB hr (by rw [hkey, ik_size]; decide), hkey]
    have ho : orB (lastR none l) (ik k) = true := by
      rcases h2 with e | ⟨j, hj, e⟩
      · rw [e]; unfold orB; rfl
      · rw [e]; unfold orB; exact ik_less j k hj (by omega)
    rw [ho]; rfl
theorem gen_ptB {key : ByteArray} {p : Pa} (h : GenPa key p) (hk : key.size ≤ 100) : ptB key p.gone (p.ps.map (·.1)) = true := by
  obtain ⟨_, ⟨g0, g1⟩, h3⟩ := h
  have h4 := gen_rsB h3 (Nat.le_refl _)
  have hl := h3.len
  rw [List.length_map] at hl
  unfold ptB
  rw [h4.1]
  simp
  omega
theorem gen_low {ps : List (Ro × Value)} {key : ByteArray} {g : Int} (h : ptB key g (ps.map (·.1)) = true) : ∀ q ∈ ps, ∀ c ∈ q.1.cols, c.name.size ≤ 1000000 := fun q hq c hc => by
  have := (((ptB_ok h).rows q.1 (List.mem_map_of_mem (f := (·.1)) hq)).cols c hc).name
  omega
theorem cellP_few {c : Cl} (h : OkC c) {n : Nat} (hv : c.val.size ≤ n) : (cellP c).length ≤ n + 28 := by
  obtain ⟨h0, h1, h2, h3, h4⟩ := h
  have l1 := num_length (x := c.at_.toNat) (by omega)
  have l2 := num_length (x := c.val.size) (by omega)
  have l3 := num_length (x := c.fin.toNat) (by omega)
  unfold cellP
  split
  · simp only [List.append_nil]; omega
  · split
    · simp only [List.length_append, List.length_cons, List.length_nil]; omega
    · simp only [List.length_append, List.length_cons, List.length_nil, dat_size]; omega
theorem gen_whole {key : ByteArray} {p : Pa} (h : GenPa key p) (hk : key.size ≤ 100) : (wholeP key p.gone (p.ps.map (·.1))).length ≤ 80000 ∧ 4 ≤ (wholeP key p.gone (p.ps.map (·.1))).length + (if key.size = 0 then 1 else 0) := by
  have hp := gen_ptB h hk
  have hok := ptB_ok hp
  have hl := h.rows.len
  unfold ptB at hp
  simp only [Bool.and_eq_true] at hp
  obtain ⟨h1, h2, h3, h4, h5⟩ := hok
  have l1 := num_length (x := key.size) (by omega)
  have l3 := num_length (x := p.gone.toNat) (by omega)
  have l5 := num_length (x := (p.ps.map (·.1)).length) (by omega)
  have l6 := flat_le (f := rowP) (n := 19000) (l := p.ps.map (·.1)) (fun c hc => by
    have hok := h5 c hc
    have hr := rsB_ok hp.2 c hc
    unfold rwB at hr
    simp only [Bool.and_eq_true] at hr
    obtain ⟨_, _, _, _, _, _, g⟩ := hdB_parts hr.1
    have g' := of_decide_eq_false g
    obtain ⟨k1, k2, k3, k4, k5, k6, k7, k8⟩ := hok
    have m1 := num_length (x := c.key.size) (by omega)
    have m2 := cellP_le k2
    have m3 := num_length (x := c.gone.toNat) (by omega)
    have m4 := num_length (x := c.shade.toNat) (by omega)
    have m5 := num_length (x := c.cols.length) (by omega)
    have m6 := flat_le (f := colP) (fun c hc => colP_le (k8 c hc))
    unfold rowP
    simp only [List.length_append, dat_size]
    omega)
  have n1 : ∀ x, 1 ≤ (num x).length := fun x => by unfold num; simp
  have a1 := n1 key.size
  have a2 := n1 p.gone.toNat
  have a3 := n1 (p.ps.map (·.1)).length
  unfold wholeP
  simp only [List.length_append, dat_size]
  constructor
  · omega
  · split <;> omega
end Go.Proofs.YtdkkbglfipkmdaaDoor

/- Made: a partition by numbers. -/
namespace Go.Proofs.YtdkkbglfipkmdaaDoor
open Go Go.RowKit
attribute [local go_sem] yields yUpon ro8 pa3

set_option maxRecDepth 100000 in
set_option maxHeartbeats 4000000 in
theorem made_any (v : Value) (l : List Int) (key : ByteArray) (w : World) (hin : IntsIn w v .i64 l) :
    Calls Tryd.prog 15 #[v, .string key] w fun e w' => ∃ p : Pa, e = .returned (.agg #[.string key, .int .i64 p.gone, p.rv]) ∧ GenPa key p ∧ RowsT w' p.rv p.ps ∧ Ext w w' := by
  obtain ⟨a0, a1, hE0⟩ := boxes2 w (pa3 ⟨#[]⟩ 0 (.slice none 0 0)) #[v] 30 95
  obtain ⟨av, cv, rfl, _⟩ := hin.block
  go_enter Tryd.func15, Tryd.ntmps15
  go_wp2_with fail
  refine (lpart_any w (w.heap.size + 1) (Nat.le_succ _) key _ hE0 ⟨_, l, a1, hin⟩).mono ?_
  rintro e w1 ⟨g, v1, qs, rfl, hg8, hgr, hrows, hg, _⟩
  have hX : Ext w w1 := hE0.grown hg (fun q hq => by cases hq; omega)
  obtain ⟨aq, cq, rfl⟩ := hrows.shape
  have a0' := a0.grown hg (by simp)
  go_wp2_with (((guard_target =~ wpList _ _ _ (Oper.mk none (Op.store _ (Operand.tmp 4) (Operand.tmp 11)) _ _ _ _ :: _) _ _); go_must (refine storeBox rfl 30 (.tmp 4) (.tmp 11) rfl (w.heap.size) _ _ _ (by rfl) (by rfl) (a0') (by kernel_rfl) (by rfl) (by simp [Value.oneCell']) ?_); intro w3 c3 g3))
  obtain ⟨z0, z1, z2⟩ := BoxAt.pa (k := key) (g := g) (u := .slice aq qs.length cq) c3
  refine bodyPost_ret (v := .agg #[.string key, .int .i64 g, .slice aq qs.length cq]) ?_ rfl ⟨⟨key, g, _, qs⟩, rfl, ⟨rfl, hg8, hgr⟩, hrows.keep g3 a0' (by decide) (by decide), hX.grown g3 (fun q hq => by cases hq; omega)⟩
  simp [results, Tryd.results15, go_sem, Act.put, z0, z1, z2]

end Go.Proofs.YtdkkbglfipkmdaaDoor

/- Package pack at partitions without rows: part.Check, whole, Part; clerestorylaw09.awake's first half. -/
namespace Go.Proofs.YtdkkbglfipkmdaaDoor
open Go Go.RowKit
attribute [local go_sem] yields yUpon

theorem ownB_shape {w : World} {B : Nat} {v : Value} {l : List UInt8} (h : OwnB w B v l) : ∃ a c, v = .slice a l.length c := by
  rcases h.2 with ⟨rfl, h0⟩ | ⟨g, cap, cur, rfl, _⟩
  · exact ⟨none, 0, by rw [h0]⟩
  · exact ⟨_, cap, rfl⟩
/-- May a partition without rows be? -/
def chk0 (k : ByteArray) (g : Int) : Bool := decide (k.size ≤ 100) && decide (0 ≤ g) && decide (g ≤ 1099511627776)
set_option maxHeartbeats 1000000 in
theorem check0_ok (k : ByteArray) (g : Int) (hk : k.size ≤ 100) (h0 : 0 ≤ g) (h1 : g ≤ 1099511627776) (w : World) :
    Calls Tryd.prog 56 #[.agg #[.string k, .int .i64 g, .slice none 0 0]] w fun e w' => e = .returned (.bool true) ∧ Ext w w' := by
  have t1 : ¬ (100 : Int) < (k.size : Int) := by omega
  have t2 : ¬ g < 0 := by omega
  have t3 : ¬ 1099511627776 < g := by omega
  go_enter Tryd.func56, Tryd.ntmps56
  go_wp2
  go_loopw [28] (fun i wr => i = .int .i64 0 ∧ Ext w wr) (fun _ _ => 0)
  case atStart => exact ⟨rfl, (Ext.refl w).alloc _⟩
  case round =>
    obtain ⟨rfl, hE⟩ := hrel
    go_wp2_with fail
    go_ret
    exact ⟨rfl, hE⟩
set_option maxHeartbeats 1000000 in
theorem check0_no (k : ByteArray) (g : Int) (hk : k.size ≤ 100) (h0 : g < 0) (w : World) :
    Calls Tryd.prog 56 #[.agg #[.string k, .int .i64 g, .slice none 0 0]] w fun e w' => e = .returned (.bool false) ∧ Ext w w' := by
  have t1 : ¬ (100 : Int) < (k.size : Int) := by omega
  go_enter Tryd.func56, Tryd.ntmps56
  go_wp2
  go_ret
  exact ⟨rfl, (Ext.refl w).alloc _⟩

def whole0 (k : ByteArray) (g : Nat) : List UInt8 := num k.size ++ k.data.toList ++ num g ++ num 0
set_option maxHeartbeats 2000000 in
theorem whole0_any (k : ByteArray) (g : Nat) (hk : k.size ≤ 100) (hg : g ≤ 1099511627776) (w : World) :
    Calls Tryd.prog 57 #[.agg #[.string k, .int .i64 (g : Int), .slice none 0 0]] w fun e w' => ∃ v', e = .returned v' ∧ OwnB w' w.heap.size v' (whole0 k g) ∧ Ext w w' := by
  have hE0 := (Ext.refl w).alloc (.cells #[.string k, .int .i64 (g : Int), .slice none 0 0] 30)
  have hbx := BoxAt.made w #[.string k, .int .i64 (g : Int), .slice none 0 0] 30
  have l1 := num_length (x := k.size) (by omega)
  have l2 := num_length (x := g) (by omega)
  have lk : k.data.toList.length = k.size := by rw [Array.length_toList]; rfl
  obtain ⟨B1, hB1⟩ : ∃ B, B = num k.size ++ k.data.toList := ⟨_, rfl⟩
  obtain ⟨B2, hB2⟩ : ∃ B, B = B1 ++ num g := ⟨_, rfl⟩
  obtain ⟨B3, hB3⟩ : ∃ B, B = B2 ++ num 0 := ⟨_, rfl⟩
  have m1 : B1.length ≤ 200 := by rw [hB1, List.length_append]; omega
  have m2 : B2.length ≤ 300 := by rw [hB2, List.length_append]; omega
  have HW : Hid (whole0 k g = B3) := Lib.hid (by rw [hB3, hB2, hB1]; rfl)
  have H1 := Lib.hid hB1
  have H2 := Lib.hid hB2
  have H3 := Lib.hid hB3
  rw [HW.out]
  clear hB1 hB2 hB3 l1 l2 lk
  go_enter Tryd.func57, Tryd.ntmps57
  go_wp2
  refine wp_region_tab 11 [(2, fun v x => OwnB x w.heap.size v B1), (5, fun v x => OwnB x w.heap.size v B2), (9, fun v x => OwnB x w.heap.size v B3)] (by kernel_rfl) (by kernel_rfl) (by kernel_rfl) ⟨fun _ _ _ hE h => h.ext hE, fun _ _ _ hE h => h.ext hE, fun _ _ _ hE h => h.ext hE, trivial⟩ ?_
  have c0 := held (show (w.alloc (.cells #[.string k, .int .i64 (g : Int), .slice none 0 0] 30)).cell? ⟨w.heap.size, 0, none⟩ = some (.string k) from hbx.cell 0)
  have c1 := held (show (w.alloc (.cells #[.string k, .int .i64 (g : Int), .slice none 0 0] 30)).cell? ⟨w.heap.size, 1, none⟩ = some (.int .i64 (g : Int)) from hbx.cell 1)
  have c2 := held (show (w.alloc (.cells #[.string k, .int .i64 (g : Int), .slice none 0 0] 30)).cell? ⟨w.heap.size, 2, none⟩ = some (.slice none 0 0) from hbx.cell 2)
  refine rg_quiet rfl rfl rfl rfl ?_; intro K hK; go_big_quiet_op; go_big_quiet_on
  refine rg_quiet rfl rfl rfl rfl ?_; intro K hK; go_big_quiet_op; go_big_quiet_on
  refine rg_fact [] rfl rfl rfl (by kernel_rfl) (fun y hE hf => ?_) (fun v2 y2 hE2 hG2 h2 => ?_)
  · go_simp
    refine (pk_text (.slice none 0 0) [] k (by omega) y (SliceIn.nil y) (by simp)).mono ?_
    rintro e w' ⟨v', rfl, ho, hw⟩
    exact ⟨_, rfl, rg_doneR hE hw (by rw [H1.out]; exact ho.base (hE0.trans hE).le)⟩
  obtain ⟨a2, n2, rfl⟩ := ownB_shape h2
  clear hE2 hG2 h2
  simp only [Act.put, List.setIfInBounds_toArray, List.set_cons_zero, List.set_cons_succ]
  refine rg_quiet rfl rfl rfl rfl ?_; intro K hK; go_big_quiet_op; go_big_quiet_on
  refine rg_quiet rfl rfl rfl rfl ?_; intro K hK; go_big_quiet_op; go_big_quiet_on
  refine rg_fact [2] rfl rfl rfl (by kernel_rfl) (fun y hE hf => ?_) (fun v5 y5 hE5 hG5 h5 => ?_)
  · have h2 := (hf 2 (by simp)).2 rfl
    go_simp
    refine (pk_number _ B1 (g : Int) (by omega) (by omega) y (OwnB.bytes h2) (by omega)).mono ?_
    rintro e w' ⟨v', rfl, ho, hw⟩
    exact ⟨_, rfl, rg_doneR hE hw (by rw [H2.out]; exact ho.base (hE0.trans hE).le)⟩
  obtain ⟨a5, n5, rfl⟩ := ownB_shape h5
  clear hE5 hG5 h5
  simp only [Act.put, List.setIfInBounds_toArray, List.set_cons_zero, List.set_cons_succ]
  refine rg_quiet rfl rfl rfl rfl ?_; intro K hK; go_big_quiet_op; go_big_quiet_on
  refine rg_quiet rfl rfl rfl rfl ?_; intro K hK; go_big_quiet_op; go_big_quiet_on
  refine rg_quiet rfl rfl rfl rfl ?_; intro K hK; go_big_quiet_op; go_big_quiet_on
  refine rg_fact [5] rfl rfl rfl (by kernel_rfl) (fun y hE hf => ?_) (fun v9 y9 hE9 hG9 h9 => ?_)
  · have h5 := (hf 5 (by simp)).2 rfl
    go_simp
    refine (pk_number _ B2 0 (by omega) (by omega) y (OwnB.bytes h5) (by omega)).mono ?_
    rintro e w' ⟨v', rfl, ho, hw⟩
    exact ⟨_, rfl, rg_doneR hE hw (by rw [H3.out]; exact ho.base (hE0.trans hE).le)⟩
  obtain ⟨a9, n9, rfl⟩ := ownB_shape h9
  clear hE9 hG9 h9
  simp only [Act.put, List.setIfInBounds_toArray, List.set_cons_zero, List.set_cons_succ]
  refine rg_quiet rfl rfl rfl rfl ?_; intro K hK; go_big_quiet_op; go_big_quiet_on
  refine rel_nil fun w2 hE2 hG => ?_
  have h9 := (hG 9).2 rfl
  have hb2 := hbx.ext hE2
  have hEw := hE0.trans hE2
  clear c0 c1 c2 hG
  have c2 : w2.cell? ⟨w.heap.size, 2, none⟩ = some (.slice none 0 0) := hb2.cell 2
  go_wp2_with fail
  go_loopw [3, 19] (fun b i wr => b = .slice a9 B3.length n9 ∧ i = .int .i64 0 ∧ Ext w2 wr) (fun _ _ _ => 0)
  case atStart => exact ⟨rfl, rfl, Ext.refl w2⟩
  case round =>
    obtain ⟨rfl, rfl, hE⟩ := hrel
    go_wp2_with fail
    go_ret
    exact ⟨_, rfl, OwnB.ext h9 hE, hEw.trans hE⟩

set_option maxHeartbeats 1000000 in
theorem part0_any (k : ByteArray) (hk : k.size ≤ 100) (w : World) :
    Calls Tryd.prog 14 #[.agg #[.string k, .int .i64 0, .slice none 0 0]] w fun e w' => ∃ v', e = .returned (.tuple #[v', .int .i64 0]) ∧ OwnB w' w.heap.size v' (whole0 k 0) ∧ Ext w w' := by
  have hE0 := (Ext.refl w).alloc (.cells #[.string k, .int .i64 0, .slice none 0 0] 30)
  have hbx := BoxAt.made w #[.string k, .int .i64 0, .slice none 0 0] 30
  have l1 := num_length (x := k.size) (by omega)
  have l2 := num_length (x := 0) (by omega)
  have lk : k.data.toList.length = k.size := by rw [Array.length_toList]; rfl
  obtain ⟨L, hL⟩ : ∃ L, L = whole0 k 0 := ⟨_, rfl⟩
  have hLl : L.length ≤ 200 := by rw [hL]; unfold whole0; simp only [List.length_append]; omega
  have HL := Lib.hid hL
  rw [← hL]
  clear hL l1 l2 lk
  go_enter Tryd.func14, Tryd.ntmps14
  go_wp2_with (first
    | (go_at_call 56; go_must (refine (check0_ok k 0 hk (by omega) (by omega) _).mono ?_); rintro e w1 ⟨rfl, hE1⟩; have hb1 := hbx.ext hE1; have c0 : w1.cell? ⟨w.heap.size, 0, none⟩ = some (.string k) := hb1.cell 0; have c1 : w1.cell? ⟨w.heap.size, 1, none⟩ = some (.int .i64 0) := hb1.cell 1; have c2 : w1.cell? ⟨w.heap.size, 2, none⟩ = some (.slice none 0 0) := hb1.cell 2)
    | (go_at_call 57; go_must (refine (whole0_any k 0 hk (by omega) _).mono ?_); rintro e w2 ⟨v2, rfl, ho2, hE2⟩; rw [← HL.out] at ho2; have ho2' := ho2; obtain ⟨a2, n2, rfl⟩ := ownB_shape ho2'))
  go_ret2
  exact ⟨_, rfl, OwnB.base ho2 (hE0.trans hE1).le, (hE0.trans hE1).trans hE2⟩
end Go.Proofs.YtdkkbglfipkmdaaDoor
