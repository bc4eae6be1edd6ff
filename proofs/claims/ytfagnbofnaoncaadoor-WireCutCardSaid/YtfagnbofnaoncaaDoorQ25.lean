/- Cells by numbers may be; the names of columns rise. -/
import Derived.Test.YtfagnbofnaoncaaDoorQ24
import Derived.Test.YtfagnbofnaoncaaDoorQ14
import Derived.Test.YtfagnbofnaoncaaDoorQ23
import Derived.Test.YtfagnbofnaoncaaDoorQ2
set_option linter.unusedSimpArgs false
set_option linter.unusedVariables false
namespace Go.Proofs.YtfagnbofnaoncaaDoor
open Go Go.RowKit

theorem cellN_ok (n : Int) (h0 : 0 ≤ n) : checkC (cellN n).val (cellN n).dead (cellN n).at_ (cellN n).fin = true ∧ 0 < (cellN n).at_ := by
  have xs : ∀ i : Nat, i < 3 → ((⟨#[120, 121, 122]⟩ : ByteArray).extract i (i + 1)).size = 1 := by decide
  unfold cellN
  split
  · unfold checkC stampB
    have h1 : ¬ 1 + n % 7 = 0 := by omega
    simp [h1]
    omega
  · have e1 : (n / 28 % 3 + 1).toNat = (n / 28 % 3).toNat + 1 := by omega
    have e2 := xs (n / 28 % 3).toNat (by omega)
    rw [← e1] at e2
    have h1 : ¬ 1 + n % 7 = 0 := by omega
    unfold checkC stampB
    simp [h1, e2]
    split <;> omega
theorem nm_less (j k : Nat) (h : j < k) (hk : k < 4) : Op.bytesLess (nmK j).toList (nmK k).toList = true := by
  obtain ⟨rfl, rfl⟩ | ⟨rfl, rfl⟩ | ⟨rfl, rfl⟩ | ⟨rfl, rfl⟩ | ⟨rfl, rfl⟩ | ⟨rfl, rfl⟩ : (j = 0 ∧ k = 1) ∨ (j = 0 ∧ k = 2) ∨ (j = 0 ∧ k = 3) ∨ (j = 1 ∧ k = 2) ∨ (j = 1 ∧ k = 3) ∨ (j = 2 ∧ k = 3) := by omega
  all_goals (simp only [nmK, ByteArray.toList_eq]; decide)
end Go.Proofs.YtfagnbofnaoncaaDoor

/- Partitions by numbers may be. -/
namespace Go.Proofs.YtfagnbofnaoncaaDoor
open Go Go.RowKit

def lastC (p : Option ByteArray) : List Co → Option ByteArray
  | [] => p
  | c :: l => lastC (some c.name) l
theorem csB_snoc (c : Co) : ∀ (l : List Co) (p : Option ByteArray), csB p (l ++ [c]) = (csB p l && (nameB c.name && orB (lastC p l) c.name && checkC c.cell.val c.cell.dead c.cell.at_ c.cell.fin && decide (0 < c.cell.at_)))
  | [], p => by simp [csB, lastC]
  | d :: l, p => by rw [List.cons_append, csB_cons, csB_snoc c l, csB_cons]; simp only [lastC, Bool.and_assoc]
theorem lastC_snoc (c : Co) : ∀ (l : List Co) (p : Option ByteArray), lastC p (l ++ [c]) = some c.name
  | [], _ => rfl
  | _ :: l, _ => lastC_snoc c l _
theorem nm_name (k : Nat) : nameB (nmK k) = true := by
  match k with
  | 0 => decide
  | 1 => decide
  | 2 => decide
  | k + 3 => exact (by decide : nameB (⟨#[100]⟩ : ByteArray) = true)
theorem gen_csB {k : Nat} {l : List Co} (h : GenCols k l) : k ≤ 4 → csB none l = true ∧ (lastC none l = none ∨ ∃ j, j < k ∧ lastC none l = some (nmK j)) := by
  induction h with
  | nil => intro _; exact ⟨rfl, .inl rfl⟩
  | skip _ ih =>
    intro hk
    obtain ⟨h1, h2⟩ := ih (by omega)
    exact ⟨h1, h2.imp id fun ⟨j, hj, e⟩ => ⟨j, by omega, e⟩⟩
  | @put k l n _ hn ih =>
    intro hk
    obtain ⟨h1, h2⟩ := ih (by omega)
    obtain ⟨c1, c2⟩ := cellN_ok n hn
    refine ⟨?_, .inr ⟨k, by omega, lastC_snoc _ l none⟩⟩
    rw [csB_snoc, h1]
    have ho : orB (lastC none l) (nmK k) = true := by
      rcases h2 with e | ⟨j, hj, e⟩
      · rw [e]; rfl
      · rw [e]; exact nm_less j k hj (by omega)
    simp only [ho, c1, nm_name, Bool.true_and]
    simpa using c2
theorem gen_rwB {r : Ro} (h : GenRow r) (hk : r.key.size ≤ 400) : rwB r = true := by
  obtain ⟨⟨l1, l2, l3⟩, ⟨g0, g1⟩, h3, h4⟩ := h
  have hc := gen_csB h4 (Nat.le_refl _)
  have hlen := h4.len
  unfold rwB
  rw [hc.1, Bool.and_true]
  unfold hdB
  obtain ⟨key, ⟨val, dead, at_, fin⟩, gone, shade, cols⟩ := r
  simp only at l1 l2 l3 g0 g1 h3 hlen hk ⊢
  subst l1 l2 h3
  have e0 : (⟨#[]⟩ : ByteArray).toList = [] := by rw [ByteArray.toList_eq]
  unfold checkC stampB
  rw [e0]
  rcases l3 with ⟨rfl, rfl⟩ | ⟨a1, a2, a3, a4⟩
  · simp
    omega
  · have h1 : ¬ at_ = 0 := by omega
    have h2 : (⟨#[]⟩ : ByteArray).size ≤ 100 := by decide
    simp [h1, h2]
    omega
theorem ik_less (j k : Nat) (h : j < k) (hk : k < 4) : Op.bytesLess (ik j).toList (ik k).toList = true := by
  obtain ⟨rfl, rfl⟩ | ⟨rfl, rfl⟩ | ⟨rfl, rfl⟩ | ⟨rfl, rfl⟩ | ⟨rfl, rfl⟩ | ⟨rfl, rfl⟩ : (j = 0 ∧ k = 1) ∨ (j = 0 ∧ k = 2) ∨ (j = 0 ∧ k = 3) ∨ (j = 1 ∧ k = 2) ∨ (j = 1 ∧ k = 3) ∨ (j = 2 ∧ k = 3) := by omega
  all_goals (simp only [ik, str_list]; decide)
theorem ik_size (k : Nat) : (ik k).size = 8 := by unfold ik int8; rw [str_size, beB_length]
def lastR (p : Option ByteArray) : List Ro → Option ByteArray
  | [] => p
  | c :: l => lastR (some c.key) l
theorem rsB_snoc (c : Ro) : ∀ (l : List Ro) (p : Option ByteArray), rsB p (l ++ [c]) = (rsB p l && (rwB c && orB (lastR p l) c.key))
  | [], p => by simp [rsB, lastR]
  | d :: l, p => by
    rw [List.cons_append]
    unfold rsB
    rw [rsB_snoc c l]
    simp only [lastR, Bool.and_assoc]
theorem lastR_snoc (c : Ro) : ∀ (l : List Ro) (p : Option ByteArray), lastR p (l ++ [c]) = some c.key
  | [], _ => rfl
  | _ :: l, _ => lastR_snoc c l _
theorem gen_rsB {k : Nat} {l : List Ro} (h : GenRows k l) : k ≤ 4 → rsB none l = true ∧ (lastR none l = none ∨ ∃ j, j < k ∧ lastR none l = some (ik j)) := by
  induction h with
  | nil => intro _; exact ⟨rfl, .inl rfl⟩
  | skip _ ih =>
    intro hk
    obtain ⟨h1, h2⟩ := ih (by omega)
    exact ⟨h1, h2.imp id fun ⟨j, hj, e⟩ => ⟨j, by omega, e⟩⟩
  | @put k l r _ hr hkey ih =>
    intro hk
    obtain ⟨h1, h2⟩ := ih (by omega)
    refine ⟨?_, .inr ⟨k, by omega, by rw [lastR_snoc, hkey]⟩⟩
    rw [rsB_snoc, h1, gen_rwB hr (by rw [hkey, ik_size]; decide), hkey]
    have ho : orB (lastR none l) (ik k) = true := by
      rcases h2 with e | ⟨j, hj, e⟩
      · rw [e]; unfold orB; rfl
      · rw [e]; unfold orB; exact ik_less j k hj (by omega)
    rw [ho]; rfl
theorem gen_ptB {key : ByteArray} {p : Pa} (h : GenPa key p) (hk : key.size ≤ 100) : ptB key p.gone (p.ps.map (·.1)) = true := by
  obtain ⟨_, ⟨g0, g1⟩, h3⟩ := h
  have h4 := gen_rsB h3 (Nat.le_refl _)
  have hl := h3.len
  rw [List.length_map] at hl
  unfold ptB
  rw [h4.1]
  simp
  omega
theorem gen_low {ps : List (Ro × Value)} {key : ByteArray} {g : Int} (h : ptB key g (ps.map (·.1)) = true) : ∀ q ∈ ps, ∀ c ∈ q.1.cols, c.name.size ≤ 1000000 := fun q hq c hc => by
  have := (((ptB_ok h).rows q.1 (List.mem_map_of_mem (f := (·.1)) hq)).cols c hc).name
  omega
theorem cellP_few {c : Cl} (h : OkC c) {n : Nat} (hv : c.val.size ≤ n) : (cellP c).length ≤ n + 28 := by
  obtain ⟨h0, h1, h2, h3, h4⟩ := h
  have l1 := num_length (x := c.at_.toNat) (by omega)
  have l2 := num_length (x := c.val.size) (by omega)
  have l3 := num_length (x := c.fin.toNat) (by omega)
  unfold cellP
  split
  · simp only [List.append_nil]; omega
  · split
    · simp only [List.length_append, List.length_cons, List.length_nil]; omega
    · simp only [List.length_append, List.length_cons, List.length_nil, dat_size]; omega
theorem gen_whole {key : ByteArray} {p : Pa} (h : GenPa key p) (hk : key.size ≤ 100) : (wholeP key p.gone (p.ps.map (·.1))).length ≤ 80000 ∧ 4 ≤ (wholeP key p.gone (p.ps.map (·.1))).length + (if key.size = 0 then 1 else 0) := by
  have hp := gen_ptB h hk
  have hok := ptB_ok hp
  have hl := h.rows.len
  unfold ptB at hp
  simp only [Bool.and_eq_true] at hp
  obtain ⟨h1, h2, h3, h4, h5⟩ := hok
  have l1 := num_length (x := key.size) (by omega)
  have l3 := num_length (x := p.gone.toNat) (by omega)
  have l5 := num_length (x := (p.ps.map (·.1)).length) (by omega)
  have l6 := flat_le (f := rowP) (n := 19000) (l := p.ps.map (·.1)) (fun c hc => by
    have hok := h5 c hc
    have hr := rsB_ok hp.2 c hc
    unfold rwB at hr
    simp only [Bool.and_eq_true] at hr
    obtain ⟨_, _, _, _, _, _, g⟩ := hdB_parts hr.1
    have g' := of_decide_eq_false g
    obtain ⟨k1, k2, k3, k4, k5, k6, k7, k8⟩ := hok
    have m1 := num_length (x := c.key.size) (by omega)
    have m2 := cellP_le k2
    have m3 := num_length (x := c.gone.toNat) (by omega)
    have m4 := num_length (x := c.shade.toNat) (by omega)
    have m5 := num_length (x := c.cols.length) (by omega)
    have m6 := flat_le (f := colP) (fun c hc => colP_le (k8 c hc))
    unfold rowP
    simp only [List.length_append, dat_size]
    omega)
  have n1 : ∀ x, 1 ≤ (num x).length := fun x => by unfold num; simp
  have a1 := n1 key.size
  have a2 := n1 p.gone.toNat
  have a3 := n1 (p.ps.map (·.1)).length
  unfold wholeP
  simp only [List.length_append, dat_size]
  constructor
  · omega
  · split <;> omega
theorem nmK_size (k : Nat) : (nmK k).size = 1 := by
  match k with
  | 0 => rfl
  | 1 => rfl
  | 2 => rfl
  | _ + 3 => rfl
theorem cellN_size (n : Int) (_ : 0 ≤ n) : (cellN n).val.size ≤ 1 := by
  have xs : ∀ i : Nat, i < 3 → ((⟨#[120, 121, 122]⟩ : ByteArray).extract i (i + 1)).size = 1 := by decide
  unfold cellN
  split
  · exact Nat.zero_le _
  · have e1 : (n / 28 % 3 + 1).toNat = (n / 28 % 3).toNat + 1 := by omega
    have e2 := xs (n / 28 % 3).toNat (by omega)
    rw [← e1] at e2
    simp only
    rw [e2]
    exact Nat.le_refl 1
theorem gen_colP {k : Nat} {l : List Co} (h : GenCols k l) : ∀ c ∈ l, (colP c).length ≤ 39 := by
  induction h with
  | nil => nofun
  | skip _ ih => exact ih
  | @put k l n _ hn ih =>
    intro c hc
    rcases List.mem_append.1 hc with hc | hc
    · exact ih c hc
    · rw [List.mem_singleton.1 hc]
      have h1 := cellP_few (checkC_ok (cellN_ok n hn).1) (cellN_size n hn)
      have h2 := num_length (x := (nmK k).size) (by rw [nmK_size]; decide)
      unfold colP
      simp only [List.length_append, dat_size, nmK_size] at h2 ⊢
      omega
theorem gen_rowP {r : Ro} (h : GenRow r) (hk : r.key.size = 8) : (rowP r).length ≤ 300 := by
  have hok := rwB_ok (gen_rwB h (by omega))
  have hl := h.cols.len
  have hv : r.live.val.size ≤ 0 := by rw [h.live.1]; decide
  obtain ⟨h1, h2, h3, h4, h5, h6, h7, h8⟩ := hok
  have l1 := num_length (x := r.key.size) (by omega)
  have l2 := cellP_few h2 hv
  have l3 := num_length (x := r.gone.toNat) (by omega)
  have l4 := num_length (x := r.shade.toNat) (by omega)
  have l5 := num_length (x := r.cols.length) (by omega)
  have l6 := flat_le (f := colP) (fun c hc => gen_colP h.cols c hc)
  unfold rowP
  simp only [List.length_append, dat_size]
  omega
theorem gen_rowsP {k : Nat} {l : List Ro} (h : GenRows k l) : ∀ r ∈ l, (rowP r).length ≤ 300 := by
  induction h with
  | nil => nofun
  | skip _ ih => exact ih
  | @put k l r _ hr hkey ih =>
    intro c hc
    rcases List.mem_append.1 hc with hc | hc
    · exact ih c hc
    · rw [List.mem_singleton.1 hc]
      exact gen_rowP hr (by rw [hkey, ik_size])
theorem gen_wholeP {key : ByteArray} {p : Pa} (h : GenPa key p) (hk : key.size ≤ 100) : (wholeP key p.gone (p.ps.map (·.1))).length ≤ 1400 := by
  have hok := ptB_ok (gen_ptB h hk)
  have hl := h.rows.len
  obtain ⟨h1, h2, h3, h4, h5⟩ := hok
  have l1 := num_length (x := key.size) (by omega)
  have l3 := num_length (x := p.gone.toNat) (by omega)
  have l5 := num_length (x := (p.ps.map (·.1)).length) (by omega)
  have l6 := flat_le (f := rowP) (gen_rowsP h.rows)
  unfold wholeP
  simp only [List.length_append, dat_size]
  omega
end Go.Proofs.YtfagnbofnaoncaaDoor

/- Made: a partition by numbers. -/
namespace Go.Proofs.YtfagnbofnaoncaaDoor
open Go Go.RowKit
attribute [local go_sem] yields yUpon ro8 pa3

set_option maxRecDepth 100000 in
set_option maxHeartbeats 4000000 in
theorem made_any (v : Value) (l : List Int) (key : ByteArray) (w : World) (hin : IntsIn w v .i64 l) :
    Calls Tryd.prog 12 #[v, .string key] w fun e w' => ∃ p : Pa, e = .returned (.agg #[.string key, .int .i64 p.gone, p.rv]) ∧ GenPa key p ∧ RowsT w' p.rv p.ps ∧ Ext w w' := by
  obtain ⟨a0, a1, hE0⟩ := boxes2 w (pa3 ⟨#[]⟩ 0 (.slice none 0 0)) #[v] 39 67
  obtain ⟨av, cv, rfl, _⟩ := hin.block
  go_enter Tryd.func12, Tryd.ntmps12
  go_wp2_with fail
  refine (lpart_any w (w.heap.size + 1) (Nat.le_succ _) key _ hE0 ⟨_, l, a1, hin⟩).mono ?_
  rintro e w1 ⟨g, v1, qs, rfl, hg8, hgr, hrows, hg, _⟩
  have hX : Ext w w1 := hE0.grown hg (fun q hq => by cases hq; omega)
  obtain ⟨aq, cq, rfl⟩ := hrows.shape
  have a0' := a0.grown hg (by simp)
  go_wp2_with (((guard_target =~ wpList _ _ _ (Oper.mk none (Op.store _ (Operand.tmp 4) (Operand.tmp 11)) _ _ _ _ :: _) _ _); go_must (refine storeBox rfl 39 (.tmp 4) (.tmp 11) rfl (w.heap.size) _ _ _ (by rfl) (by rfl) (a0') (by kernel_rfl) (by rfl) (by simp [Value.oneCell']) ?_); intro w3 c3 g3))
  obtain ⟨z0, z1, z2⟩ := BoxAt.pa (k := key) (g := g) (u := .slice aq qs.length cq) c3
  refine bodyPost_ret (v := .agg #[.string key, .int .i64 g, .slice aq qs.length cq]) ?_ rfl ⟨⟨key, g, _, qs⟩, rfl, ⟨rfl, hg8, hgr⟩, hrows.keep g3 a0' (by decide) (by decide), hX.grown g3 (fun q hq => by cases hq; omega)⟩
  simp [results, Tryd.results12, go_sem, Act.put, z0, z1, z2]

end Go.Proofs.YtfagnbofnaoncaaDoor

/- WireCut: the law's walk. -/
namespace Go.Proofs.YtfagnbofnaoncaaDoor
open Go Go.RowKit
attribute [local go_sem] yields yUpon

theorem tx_twoW {w : World} {b : Nat} {s t : ByteArray} {e : TypeId} (h : BoxAt w b #[.string s, .string t] e) : TxIn w (.slice (some ⟨b, 0, none⟩) 2 2) [s, t] :=
  ⟨_, _, rfl, Nat.le_refl _, by unfold maxLen; simp, nofun, fun j u hj => ⟨b, 0, rfl, by rw [Nat.zero_add, h.cell j]; simpa using hj⟩⟩
theorem mts_oneW {w : World} {b : Nat} {m : Mt} {e : TypeId} (h : BoxAt w b (mt4 m) e) (hr : RowsIn w m.pa.rv m.pa.ps) : MtsIn w (.slice (some ⟨b, 0, none⟩) 1 1) [m] :=
  ⟨⟨_, _, rfl, Nat.le_refl _, by unfold maxLen; simp, nofun, fun j u hj => ⟨b, 0, rfl, by rw [Nat.zero_add, h.cell j]; have e : mtCells [m] = (mt4 m).toList := by simp [mtCells]
                                                                                          rw [e] at hj; simpa using hj⟩⟩, fun x hx => by rw [List.mem_singleton.1 hx]; exact hr⟩
theorem extract_datW (S : ByteArray) (i V : Nat) : S.extract i (i + V) = str ((S.data.toList.drop i).take V) := by
  apply ByteArray.ext
  apply Array.toList_inj.1
  rw [ByteArray.data_extract]
  simp [str, List.take_drop]
/-- The law's message. -/
def mgC (kd : Int) (p : Pa) : Mg := ⟨⟨1 + kd % 8, 0, 1, 1048576, 0⟩, [⟨⟨#[116, 95, 49]⟩, ⟨⟨#[109]⟩, p.gone, p.ps.map (·.1)⟩⟩], [⟨#[97]⟩, ⟨#[]⟩]⟩
theorem mgC_ok {kd : Int} {p : Pa} (h : GenPa ⟨#[109]⟩ p) : msQ (mgC kd p) = true ∧ (msgE (mgC kd p)).length ≤ 4096 ∧ 2 ≤ (msgE (mgC kd p)).length := by
  have hk : (⟨#[109]⟩ : ByteArray).size ≤ 100 := by decide
  have h1 := gen_ptB h hk
  have h2 := gen_wholeP h hk
  have h3 := Int.emod_nonneg kd (show (8 : Int) ≠ 0 by decide)
  have h4 := Int.emod_lt_of_pos kd (show (0 : Int) < 8 by decide)
  have hn : nameB ⟨#[116, 95, 49]⟩ = true := by decide
  refine ⟨?_, ?_, ?_⟩
  · unfold msQ mgC inB
    simp only [List.any_cons, List.any_nil, List.length_cons, List.length_nil]
    unfold okMq
    simp only
    rw [hn, h1]
    simp [longB, ByteArray.size]
    omega
  · have l1 := num_length (x := (1 + kd % 8).toNat) (by omega)
    have l2 := num_length (x := (0 : Int).toNat) (by decide)
    have l3 := num_length (x := (1 : Int).toNat) (by decide)
    have l4 := num_length (x := (1048576 : Int).toNat) (by decide)
    have l5 := num_length (x := 1) (by decide)
    have l6 := num_length (x := 2) (by decide)
    have l7 := num_length (x := 3) (by decide)
    have l8 := num_length (x := 0) (by decide)
    have l10 := num_length (x := 0 + 1) (by decide)
    have l11 := num_length (x := 0 + 1 + 1) (by decide)
    have l12 := num_length (x := 0 + 1 + 1 + 1) (by decide)
    have l9 := num_length (x := (wholeP ⟨#[109]⟩ p.gone (p.ps.map (·.1))).length) (by omega)
    unfold msgE mgC
    simp only [List.flatMap_cons, List.flatMap_nil, List.length_append, List.length_cons, List.length_nil, List.append_nil]
    unfold mutE mutQ
    simp only [List.length_append, dat_size]
    simp only [ByteArray.size, List.size_toArray, List.length_cons, List.length_nil] at *
    omega
  · have l1 := num_ge (1 + kd % 8).toNat
    have l2 := num_ge (0 : Int).toNat
    unfold msgE mgC
    simp only [List.length_append]
    omega

set_option maxRecDepth 100000 in
set_option maxHeartbeats 16000000 in
theorem law_wireCut (v0 : Value) (l : List Int) (kd at_ : Int) (w : World) (hin : IntsIn w v0 .i64 l) (hT : TabU w) :
    Calls Tryd.prog 4 #[v0, .int .i64 kd, .int .i64 at_] w fun e w' => e = .returned (.bool true) ∧ Ext w w' := by
  have hin0 := hin
  obtain ⟨a0, c0, rfl, hc0, hcm0, _⟩ := hin
  unfold maxLen at hcm0
  by_cases h30 : 30 < (l.length : Int)
  · go_enter Tryd.func4, Tryd.ntmps4
    go_wp2_with (go_at_call 6; go_must (refine (awake21_any _ hT).mono ?_); rintro e w7 ⟨rfl, hE7⟩)
    go_ret
    exact ⟨rfl, hE7⟩
  have K1 := Lib.hid (made_any _ l ⟨#[109]⟩ w hin0)
  clear hin0
  obtain ⟨n0, hn0⟩ : ∃ n, n = l.length := ⟨_, rfl⟩
  rw [← hn0] at hc0 h30 K1 ⊢
  clear hn0
  have h3 := Int.emod_nonneg kd (show (8 : Int) ≠ 0 by decide)
  have h4 := Int.emod_lt_of_pos kd (show (0 : Int) < 8 by decide)
  go_enter Tryd.func4, Tryd.ntmps4
  go_wp2_with fail
  refine (place_any kd 8 (by omega) (by omega) _).mono ?_
  rintro e w1 ⟨rfl, rfl⟩
  go_wp2_with (go_at_call 12; go_must (refine K1.out.mono ?_); rintro e w1 ⟨p, rfl, hgen, hrt, hE1⟩; have hrt' := hrt; obtain ⟨ra, rc, hrv⟩ := hrt'.shape; rw [hrv] at hrt ⊢)
  obtain ⟨hq1, hq2, hq3⟩ := mgC_ok (kd := kd) hgen
  have hpq : putQ (mgC kd p) = (str (msgE (mgC kd p)), 0) := by unfold putQ; rw [hq1, if_pos rfl, if_pos hq2]
  have hz : (putQ (mgC kd p)).2 = 0 := by rw [hpq]
  have hgp := gx_put hz
  have hgc := fun j hj => gx_cut (j := j) hz hj
  rw [hpq] at hgp hgc
  simp only at hgp hgc
  rw [str_size] at hgc
  have hlw := gen_low (gen_ptB hgen (show (⟨#[109]⟩ : ByteArray).size ≤ 100 by decide))
  have hwl := gen_wholeP hgen (show (⟨#[109]⟩ : ByteArray).size ≤ 100 by decide)
  obtain ⟨q0, q1, q2, hE2⟩ := boxes3 w1 #[.string ⟨#[116, 95, 49]⟩, .string ⟨#[109]⟩, .int .i64 p.gone, .slice ra p.ps.length rc] #[.string ⟨#[97]⟩, .string ⟨#[]⟩] #[.int .i64 (1 + kd % 8), .int .i64 0, .int .i64 1, .int .i64 1048576, .slice (some ⟨w1.heap.size, 0, none⟩) 1 1, .slice (some ⟨w1.heap.size + 1, 0, none⟩) 2 2, .int .i64 0] 42 9 25
  have hrt2 := hrt.ext hE2
  obtain ⟨w2, hw2⟩ : ∃ w2, w2 = (((w1.alloc (.cells #[.string ⟨#[116, 95, 49]⟩, .string ⟨#[109]⟩, .int .i64 p.gone, .slice ra p.ps.length rc] 42)).alloc (.cells #[.string ⟨#[97]⟩, .string ⟨#[]⟩] 9)).alloc (.cells #[.int .i64 (1 + kd % 8), .int .i64 0, .int .i64 1, .int .i64 1048576, .slice (some ⟨w1.heap.size, 0, none⟩) 1 1, .slice (some ⟨w1.heap.size + 1, 0, none⟩) 2 2, .int .i64 0] 25)) := ⟨_, rfl⟩
  rw [← hw2] at q0 q1 q2 hE2 hrt2 ⊢
  clear hw2
  have hE02 := hE1.trans hE2
  have hT2 := hT.ext hE02
  have hM2 : MtsIn w2 (.slice (some ⟨w1.heap.size, 0, none⟩) 1 1) [⟨⟨#[116, 95, 49]⟩, ⟨⟨#[109]⟩, p.gone, .slice ra p.ps.length rc, p.ps⟩⟩] := mts_oneW q0 hrt2.rows
  have hK2 : TxIn w2 (.slice (some ⟨w1.heap.size + 1, 0, none⟩) 2 2) [⟨#[97]⟩, ⟨#[]⟩] := tx_twoW q1
  have hp := wput_any ⟨1 + kd % 8, 0, 1, 1048576, 0⟩ _ _ _ _ w2 hT2 hM2 hK2 (fun x hx => by rw [List.mem_singleton.1 hx]; exact ⟨show (⟨#[116, 95, 49]⟩ : ByteArray).size ≤ 1000000 by decide, hlw⟩) (fun x hx => by simp only [List.mem_cons, List.not_mem_nil, or_false] at hx; rcases hx with rfl | rfl <;> decide) (fun x hx _ => by rw [List.mem_singleton.1 hx]; exact Nat.le_trans hwl (by decide))
  have hmq : (⟨⟨1 + kd % 8, 0, 1, 1048576, 0⟩, [(⟨⟨#[116, 95, 49]⟩, ⟨⟨#[109]⟩, p.gone, .slice ra p.ps.length rc, p.ps⟩⟩ : Mt)].map Mt.q, [⟨#[97]⟩, ⟨#[]⟩]⟩ : Mg) = mgC kd p := rfl
  rw [hmq, hpq] at hp
  have hS := fun w3 (hE : Ext w2 w3) vb kb ms (hG : GotW w3 vb kb ms (mgC kd p)) => Lib.hid (sameMsg_any ⟨1 + kd % 8, 0, 1, 1048576, 0⟩ vb _ kb _ ms [⟨⟨#[116, 95, 49]⟩, ⟨⟨#[109]⟩, p.gone, .slice ra p.ps.length rc, p.ps⟩⟩] hG.q [⟨#[97]⟩, ⟨#[]⟩] w3 hG.mt (hM2.ext hE) hG.ks (hK2.ext hE))
  have hmd : (mgC kd p).hd = ⟨1 + kd % 8, 0, 1, 1048576, 0⟩ := rfl
  have hmk : (mgC kd p).keys.length = 2 := rfl
  obtain ⟨E, hE⟩ : ∃ E, E = msgE (mgC kd p) := ⟨_, rfl⟩
  rw [← hE] at hgp hgc hp hq2 hq3
  obtain ⟨X, hX⟩ : ∃ X, X = mgC kd p := ⟨_, rfl⟩
  rw [← hX] at hgp hS hmd hmk
  have HG1 := far hgp.1
  have HG2 := far hgp.2
  have HGC := far hgc
  have HMD := far hmd
  have HMK := far hmk
  clear hX hE hgp hgc hpq hz hq1 hmq hlw hwl hM2 hK2 hmd hmk hrt2 hrt hgen
  unfold hd7 at hp hS
  simp only at hp hS
  refine hp.mono ?_
  rintro e w3 ⟨rfl, hE3⟩
  have hs2 : (str E).size = E.length := str_size _
  obtain ⟨S, hS0⟩ : ∃ S, S = str E := ⟨_, rfl⟩
  rw [← hS0] at hs2 HG1 HG2 ⊢
  have HS0 := far hS0
  have HS2 := far hs2
  have hS1 : 2 ≤ S.size := by omega
  have hS4 : S.size ≤ 4096 := by omega
  clear hS0 hp hs2 hq2 hq3
  have hE03 := hE02.trans hE3
  have t2 : ¬ (S.size : Int) < 2 := by omega
  go_wp2_with fail
  refine (wget_gen S w3 (hT.ext hE03) (by omega)).mono ?_
  rintro e w4 ⟨v4, k4, ms4, rfl, hG4, hE4⟩
  rw [HG1.out, HG2.out]
  rw [HG2.out] at hG4
  have hE23 := hE3.trans hE4
  obtain ⟨a4, c4, rfl, _⟩ := hG4.mt.get
  obtain ⟨d4, f4, rfl, _⟩ := hG4.ks.get
  rw [HMD.out, HMK.out] 
  rw [HMK.out] at hG4
  unfold hd7
  simp only
  have hE5 : Ext w4 (w4.alloc (.cells #[.int .i64 (1 + kd % 8), .int .i64 0, .int .i64 1, .int .i64 1048576, .slice a4 ms4.length c4, .slice d4 2 f4, .int .i64 0] 25)) := (Ext.refl w4).alloc _
  have b5 := BoxAt.made w4 #[.int .i64 (1 + kd % 8), .int .i64 0, .int .i64 1, .int .i64 1048576, .slice a4 ms4.length c4, .slice d4 2 f4, .int .i64 0] 25
  go_wp2_with fail
  refine (place_any at_ S.size (by omega) (by omega) _).mono ?_
  rintro e w5 ⟨rfl, rfl⟩
  obtain ⟨I, hI⟩ : ∃ I : Nat, (I : Int) = at_ % (S.size : Int) := ⟨(at_ % (S.size : Int)).toNat, by have := Int.emod_nonneg at_ (show (S.size : Int) ≠ 0 by omega); omega⟩
  have hIl : I < S.size := by have := Int.emod_lt_of_pos at_ (show (0 : Int) < (S.size : Int) by omega); omega
  rw [← hI]
  clear hI
  go_wp2_with fail
  have hex : S.extract 0 I = str (E.take I) := by
    have := extract_datW S 0 I
    rw [Nat.zero_add, List.drop_zero] at this
    rw [this, HS0.out, str_toList]
  have h8 : gxErr (S.extract 0 I) = 8 := by rw [hex]; exact HGC.out I (by have := HS2.out; omega)
  have hn8 := gx_none (S := S.extract 0 I) (by rw [h8]; decide)
  have hxs : (S.extract 0 I).size ≤ 1000000 := by rw [ByteArray.size_extract]; omega
  obtain ⟨Y, hY⟩ : ∃ Y, Y = S.extract 0 I := ⟨_, rfl⟩
  rw [← hY] at h8 hn8 hxs ⊢
  clear hex hY
  have H8 := far h8
  have HN8 := far hn8
  clear h8 hn8
  have hE05 := (hE03.trans hE4).trans hE5
  refine (wget_gen Y _ (hT.ext hE05) hxs).mono ?_
  rintro e w6 ⟨v6, k6, ms6, rfl, hG6, hE6⟩
  rw [H8.out, HN8.out]
  rw [HN8.out] at hG6
  have hm6 : ms6 = [] := by have := hG6.q; unfold mg0 at this; simpa using this
  subst hm6
  obtain ⟨a6, c6, rfl, _⟩ := hG6.mt.get
  obtain ⟨d6, f6, rfl, _⟩ := hG6.ks.get
  unfold hd7 mg0
  simp only
  have hE26 := (hE23.trans hE5).trans hE6
  have hG46 := fun o => hG4.ext ((hE5.trans hE6).trans ((Ext.refl w6).alloc o))
  have hS6 := fun o => hS (w6.alloc o) (hE26.alloc o) _ _ ms4 (hG46 o)
  have e6 := q2.ext hE26
  have b6 := b5.ext hE6
  have x0 := fun o => e6.allocs o 0
  have x1 := fun o => e6.allocs o 1
  have x2 := fun o => e6.allocs o 2
  have x3 := fun o => e6.allocs o 3
  have x4 := fun o => e6.allocs o 4
  have x5 := fun o => e6.allocs o 5
  have x6 := fun o => e6.allocs o 6
  have y0 := fun o => b6.allocs o 0
  have y1 := fun o => b6.allocs o 1
  have y2 := fun o => b6.allocs o 2
  have y3 := fun o => b6.allocs o 3
  have y4 := fun o => b6.allocs o 4
  have y5 := fun o => b6.allocs o 5
  have y6 := fun o => b6.allocs o 6
  simp at x0 x1 x2 x3 x4 x5 x6 y0 y1 y2 y3 y4 y5 y6
  go_wp2_with (first
    | (go_at_call 9; go_must (refine (hS6 _).out.mono ?_); rintro e w7 ⟨rfl, hE7⟩; have b7 := (BoxAt.made w6 #[.int .i64 0, .int .i64 0, .int .i64 0, .int .i64 0, .slice a6 ([] : List Mt).length c6, .slice d6 ([] : List ByteArray).length f6, .int .i64 0] 25).ext hE7; have z0 : w7.cell? ⟨w6.heap.size, 0, none⟩ = some (.int .i64 0) := b7.cell 0; have z4 : w7.cell? ⟨w6.heap.size, 4, none⟩ = some (.slice a6 0 c6) := b7.cell 4)
    | (go_at_call 6; go_must (refine (awake21_any _ (hT.ext (((hE05.trans hE6).alloc _).trans hE7))).mono ?_); rintro e w8 ⟨rfl, hE8⟩))
  go_ret
  exact ⟨rfl, (((hE05.trans hE6).alloc _).trans hE7).trans hE8⟩
theorem walk_wireCut (v0 : Value) (a1 a2 : Int) (W : World) (w0 : ∃ l : List Int, IntsIn W v0 .i64 l ∧ ∀ n ∈ l, (Lit.int .i64 n).wf = true) (_ : (Lit.int .i64 a1).wf = true) (_ : (Lit.int .i64 a2).wf = true) (hT : TabU W) :
    Calls Tryd.prog 4 #[v0, .int .i64 a1, .int .i64 a2] W fun e w' => e = .returned (.bool true) ∧ Ext W w' := by
  obtain ⟨l, hl, _⟩ := w0
  exact law_wireCut v0 l a1 a2 W hl hT
end Go.Proofs.YtfagnbofnaoncaaDoor
