/- Made, Several: partitions by numbers. -/
import Derived.Test.YtcmgeccgahakbaaDoorQ8
import Derived.Test.YtcmgeccgahakbaaDoorQ17
import Derived.Test.YtcmgeccgahakbaaDoorQ12
import Derived.Test.YtcmgeccgahakbaaDoorQ1
import Derived.Test.YtcmgeccgahakbaaDoorQ2
set_option linter.unusedSimpArgs false
set_option linter.unusedVariables false
namespace Go.Proofs.YtcmgeccgahakbaaDoor
open Go Go.RowKit
attribute [local go_sem] yields yUpon ro8 pa3

/-- A partition by numbers, of a key. -/
structure GenPa (key : ByteArray) (p : Pa) : Prop where
  key : p.key = key
  gone : 0 ≤ p.gone ∧ p.gone ≤ 7
  rows : GenRows 4 (p.ps.map (·.1))

set_option maxRecDepth 100000 in
set_option maxHeartbeats 4000000 in
theorem several_own (v : Value) (l : List Int) (many : Nat) (hm : many ≤ 1000) (key : ByteArray) (w : World) (hin : IntsIn w v .i64 l) :
    Calls Tryd.prog 51 #[v, .int .i64 (many : Int), .string key] w fun e w' => ∃ (v' : Value) (L : List Pa), e = .returned v' ∧ L.length = many ∧ PartsT w' v' L ∧ (∀ p ∈ L, GenPa key p) ∧ Ext w w' ∧ ∀ q, v'.ownBlock = some q → w.heap.size ≤ q := by
  have a0 := BoxAt.made w #[v] 145
  have hE0 := (Ext.refl w).alloc (.cells #[v] 145)
  obtain ⟨av, cv, rfl, _⟩ := hin.block
  go_enter Tryd.func51, Tryd.ntmps51
  go_wp2_with fail
  go_loopw [8, 9] (fun m i wr => ∃ (k : Nat) (vo : Value) (L : List Pa), k ≤ many ∧ i = .int .i64 k ∧ m = vo ∧ L.length = k ∧ wr.ownsRow (w.heap.size + 1) 24 3 vo L.length (paCells L) ∧ (∀ p ∈ L, RowsT wr p.rv p.ps) ∧ (∀ p ∈ L, GenPa key p) ∧ LeftIn w wr w.heap.size ∧ w.heap.size < wr.heap.size ∧ Ext w wr) (fun _ i _ => many - (intOf i).toNat)
  case atStart => exact ⟨0, _, [], Nat.zero_le _, rfl, rfl, rfl, World.ownsRow_nil _ _ _ _, nofun, nofun, ⟨_, l, a0, hin⟩, a0.lt, hE0⟩
  case round =>
    obtain ⟨k, vo, L, hk, rfl, rfl, hLk, hown, hrows, hgen, hleft, hlt0, hE⟩ := hrel
    clear a0 hE0
    subst hLk
    obtain ⟨ao, co, rfl⟩ := own_shape hown
    by_cases hlt : L.length < many
    · have t1 : decide ((L.length : Int) < (many : Int)) = true := by simp; omega
      go_wp2_with fail
      refine (lpart_any w w.heap.size (Nat.le_refl _) key wr hE hleft).mono ?_
      rintro e w1 ⟨g, v1, qs, rfl, hg8, hgr, hq, hg, hleft1⟩
      obtain ⟨v0, hb0⟩ := hleft.box
      have hrows1 : ∀ p ∈ L, RowsT w1 p.rv p.ps := fun p hp => (hrows p hp).keep hg hb0 (by decide) (by decide)
      have hown1 : w1.ownsRow (w.heap.size + 1) 24 3 (.slice ao L.length co) L.length (paCells L) := hown.kept hg (own_ne_box hown hb0 (by decide))
      have hX1 : Ext w w1 := hE.grown hg (fun q hq => by cases hq; omega)
      have hsz1 : w.heap.size + 1 ≤ w1.heap.size := by have := hg.size; omega
      obtain ⟨aq, cq, rfl⟩ := hq.shape
      obtain ⟨nq, hnq⟩ : ∃ nq, nq = qs.length := ⟨_, rfl⟩
      rw [← hnq] at hq ⊢
      clear hnq hown hrows hleft hb0 hg
      go_wp2_with (at_builtin; go_must (refine appR info_Part und_Parts rfl (by decide) w1 rfl (.tmp 18) (.tmp 22) rfl (w.heap.size + 1) hsz1 (.slice ao L.length co) L.length (paCells L) hown1 rfl 1 (pa3 key g (.slice aq nq cq)) rfl rfl (by simp [pa3, Value.oneCell']) (by unfold maxLen; omega) (by omega) ?_); intro v20 w20 hown20 hg20)
      go_roundw
      case rel =>
        have hXa := (Ext.refl w1).alloc (.cells (pa3 key g (.slice aq nq cq)) 24)
        have howna := ownsRow_ext hown1 hXa
        have hkr : ∀ {rv ps}, RowsT w1 rv ps → RowsT w20 rv ps := fun h => (h.ext hXa).keepOwn howna hg20 (by decide) (by decide)
        refine ⟨L.length + 1, _, L ++ [⟨key, g, .slice aq nq cq, qs⟩], by omega, by go_num, rfl, by simp, ?_, fun p hp => ?_, fun p hp => ?_, ?_, ?_, ?_⟩
        · rw [paCells_append, List.length_append]
          exact hown20
        · rcases List.mem_append.1 hp with hp | hp
          · exact hkr (hrows1 p hp)
          · rw [List.mem_singleton.1 hp]
            exact hkr hq
        · rcases List.mem_append.1 hp with hp | hp
          · exact hgen p hp
          · rw [List.mem_singleton.1 hp]
            exact ⟨rfl, hg8, hgr⟩
        · obtain ⟨vl, ll, hv, hli⟩ := hleft1.ext hXa
          exact ⟨vl, ll, hv.grown hg20 (fun e => by have := (howna.lt _ e.symm).1; omega), hli⟩
        · have := hg20.size
          have := hXa.le
          omega
        · exact (hX1.trans hXa).grown hg20 (fun q hq => by have := (howna.lt _ hq).1; omega)
      case measure => simp [intOf]; omega
    · go_wp2_with fail
      have hkm : L.length = many := by omega
      go_ret
      exact ⟨_, L, rfl, hkm, ⟨TIn.own hown, hrows⟩, hgen, hE, fun q hq => Nat.le_trans (Nat.le_succ _) (hown.lt q hq).1⟩
theorem several_any (v : Value) (l : List Int) (many : Nat) (hm : many ≤ 1000) (key : ByteArray) (w : World) (hin : IntsIn w v .i64 l) :
    Calls Tryd.prog 51 #[v, .int .i64 (many : Int), .string key] w fun e w' => ∃ (v' : Value) (L : List Pa), e = .returned v' ∧ L.length = many ∧ PartsT w' v' L ∧ (∀ p ∈ L, GenPa key p) ∧ Ext w w' :=
  (several_own v l many hm key w hin).mono fun e w' ⟨v', L, h1, h2, h3, h4, h5, _⟩ => ⟨v', L, h1, h2, h3, h4, h5⟩
end Go.Proofs.YtcmgeccgahakbaaDoor

/- Cells by numbers may be; the names of columns rise. -/
namespace Go.Proofs.YtcmgeccgahakbaaDoor
open Go Go.RowKit

theorem cellN_ok (n : Int) (h0 : 0 ≤ n) : checkC (cellN n).val (cellN n).dead (cellN n).at_ (cellN n).fin = true ∧ 0 < (cellN n).at_ := by
  have xs : ∀ i : Nat, i < 3 → ((⟨#[120, 121, 122]⟩ : ByteArray).extract i (i + 1)).size = 1 := by decide
  unfold cellN
  split
  · unfold checkC stampB
    have h1 : ¬ 1 + n % 7 = 0 := by omega
    simp [h1]
    omega
  · have e1 : (n / 28 % 3 + 1).toNat = (n / 28 % 3).toNat + 1 := by omega
    have e2 := xs (n / 28 % 3).toNat (by omega)
    rw [← e1] at e2
    have h1 : ¬ 1 + n % 7 = 0 := by omega
    unfold checkC stampB
    simp [h1, e2]
    split <;> omega
theorem nm_less (j k : Nat) (h : j < k) (hk : k < 4) : Op.bytesLess (nmK j).toList (nmK k).toList = true := by
  obtain ⟨rfl, rfl⟩ | ⟨rfl, rfl⟩ | ⟨rfl, rfl⟩ | ⟨rfl, rfl⟩ | ⟨rfl, rfl⟩ | ⟨rfl, rfl⟩ : (j = 0 ∧ k = 1) ∨ (j = 0 ∧ k = 2) ∨ (j = 0 ∧ k = 3) ∨ (j = 1 ∧ k = 2) ∨ (j = 1 ∧ k = 3) ∨ (j = 2 ∧ k = 3) := by omega
  all_goals (simp only [nmK, ByteArray.toList_eq]; decide)
end Go.Proofs.YtcmgeccgahakbaaDoor

/- Partitions by numbers may be. -/
namespace Go.Proofs.YtcmgeccgahakbaaDoor
open Go Go.RowKit

def lastC (p : Option ByteArray) : List Co → Option ByteArray
  | [] => p
  | c :: l => lastC (some c.name) l
theorem csB_snoc (c : Co) : ∀ (l : List Co) (p : Option ByteArray), csB p (l ++ [c]) = (csB p l && (nameB c.name && orB (lastC p l) c.name && checkC c.cell.val c.cell.dead c.cell.at_ c.cell.fin && decide (0 < c.cell.at_)))
  | [], p => by simp [csB, lastC]
  | d :: l, p => by rw [List.cons_append, csB_cons, csB_snoc c l, csB_cons]; simp only [lastC, Bool.and_assoc]
theorem lastC_snoc (c : Co) : ∀ (l : List Co) (p : Option ByteArray), lastC p (l ++ [c]) = some c.name
  | [], _ => rfl
  | _ :: l, _ => lastC_snoc c l _
theorem nm_name (k : Nat) : nameB (nmK k) = true := by
  match k with
  | 0 => decide
  | 1 => decide
  | 2 => decide
  | k + 3 => exact (by decide : nameB (⟨#[100]⟩ : ByteArray) = true)
theorem gen_csB {k : Nat} {l : List Co} (h : GenCols k l) : k ≤ 4 → csB none l = true ∧ (lastC none l = none ∨ ∃ j, j < k ∧ lastC none l = some (nmK j)) := by
  induction h with
  | nil => intro _; exact ⟨rfl, .inl rfl⟩
  | skip _ ih =>
    intro hk
    obtain ⟨h1, h2⟩ := ih (by omega)
    exact ⟨h1, h2.imp id fun ⟨j, hj, e⟩ => ⟨j, by omega, e⟩⟩
  | @put k l n _ hn ih =>
    intro hk
    obtain ⟨h1, h2⟩ := ih (by omega)
    obtain ⟨c1, c2⟩ := cellN_ok n hn
    refine ⟨?_, .inr ⟨k, by omega, lastC_snoc _ l none⟩⟩
    rw [csB_snoc, h1]
    have ho : orB (lastC none l) (nmK k) = true := by
      rcases h2 with e | ⟨j, hj, e⟩
      · rw [e]; rfl
      · rw [e]; exact nm_less j k hj (by omega)
    simp only [ho, c1, nm_name, Bool.true_and]
    simpa using c2
theorem gen_rwB {r : Ro} (h : GenRow r) (hk : r.key.size ≤ 400) : rwB r = true := by
  obtain ⟨⟨l1, l2, l3⟩, ⟨g0, g1⟩, h3, h4⟩ := h
  have hc := gen_csB h4 (Nat.le_refl _)
  have hlen := h4.len
  unfold rwB
  rw [hc.1, Bool.and_true]
  unfold hdB
  obtain ⟨key, ⟨val, dead, at_, fin⟩, gone, shade, cols⟩ := r
  simp only at l1 l2 l3 g0 g1 h3 hlen hk ⊢
  subst l1 l2 h3
  have e0 : (⟨#[]⟩ : ByteArray).toList = [] := by rw [ByteArray.toList_eq]
  unfold checkC stampB
  rw [e0]
  rcases l3 with ⟨rfl, rfl⟩ | ⟨a1, a2, a3, a4⟩
  · simp
    omega
  · have h1 : ¬ at_ = 0 := by omega
    have h2 : (⟨#[]⟩ : ByteArray).size ≤ 100 := by decide
    simp [h1, h2]
    omega
theorem ik_less (j k : Nat) (h : j < k) (hk : k < 4) : Op.bytesLess (ik j).toList (ik k).toList = true := by
  obtain ⟨rfl, rfl⟩ | ⟨rfl, rfl⟩ | ⟨rfl, rfl⟩ | ⟨rfl, rfl⟩ | ⟨rfl, rfl⟩ | ⟨rfl, rfl⟩ : (j = 0 ∧ k = 1) ∨ (j = 0 ∧ k = 2) ∨ (j = 0 ∧ k = 3) ∨ (j = 1 ∧ k = 2) ∨ (j = 1 ∧ k = 3) ∨ (j = 2 ∧ k = 3) := by omega
  all_goals (simp only [ik, str_list]; decide)
theorem ik_size (k : Nat) : (ik k).size = 8 := by unfold ik int8; rw [str_size, beB_length]
def lastR (p : Option ByteArray) : List Ro → Option ByteArray
  | [] => p
  | c :: l => lastR (some c.key) l
theorem rsB_snoc (c : Ro) : ∀ (l : List Ro) (p : Option ByteArray), rsB p (l ++ [c]) = (rsB p l && (rwB c && orB (lastR p l) c.key))
  | [], p => by simp [rsB, lastR]
  | d :: l, p => by
    rw [List.cons_append]
    unfold rsB
    rw [rsB_snoc c l]
    simp only [lastR, Bool.and_assoc]
theorem lastR_snoc (c : Ro) : ∀ (l : List Ro) (p : Option ByteArray), lastR p (l ++ [c]) = some c.key
  | [], _ => rfl
  | _ :: l, _ => lastR_snoc c l _
theorem gen_rsB {k : Nat} {l : List Ro} (h : GenRows k l) : k ≤ 4 → rsB none l = true ∧ (lastR none l = none ∨ ∃ j, j < k ∧ lastR none l = some (ik j)) := by
  induction h with
  | nil => intro _; exact ⟨rfl, .inl rfl⟩
  | skip _ ih =>
    intro hk
    obtain ⟨h1, h2⟩ := ih (by omega)
    exact ⟨h1, h2.imp id fun ⟨j, hj, e⟩ => ⟨j, by omega, e⟩⟩
  | @put k l r _ hr hkey ih =>
    intro hk
    obtain ⟨h1, h2⟩ := ih (by omega)
    refine ⟨?_, .inr ⟨k, by omega, by rw [lastR_snoc, hkey]⟩⟩
    rw [rsB_snoc, h1, gen_rwB hr (by rw [hkey, ik_size]; decide), hkey]
    have ho : orB (lastR none l) (ik k) = true := by
      rcases h2 with e | ⟨j, hj, e⟩
      · rw [e]; unfold orB; rfl
      · rw [e]; unfold orB; exact ik_less j k hj (by omega)
    rw [ho]; rfl
theorem gen_ptB {key : ByteArray} {p : Pa} (h : GenPa key p) (hk : key.size ≤ 100) : ptB key p.gone (p.ps.map (·.1)) = true := by
  obtain ⟨_, ⟨g0, g1⟩, h3⟩ := h
  have h4 := gen_rsB h3 (Nat.le_refl _)
  have hl := h3.len
  rw [List.length_map] at hl
  unfold ptB
  rw [h4.1]
  simp
  omega
theorem gen_low {ps : List (Ro × Value)} {key : ByteArray} {g : Int} (h : ptB key g (ps.map (·.1)) = true) : ∀ q ∈ ps, ∀ c ∈ q.1.cols, c.name.size ≤ 1000000 := fun q hq c hc => by
  have := (((ptB_ok h).rows q.1 (List.mem_map_of_mem (f := (·.1)) hq)).cols c hc).name
  omega
theorem cellP_few {c : Cl} (h : OkC c) {n : Nat} (hv : c.val.size ≤ n) : (cellP c).length ≤ n + 28 := by
  obtain ⟨h0, h1, h2, h3, h4⟩ := h
  have l1 := num_length (x := c.at_.toNat) (by omega)
  have l2 := num_length (x := c.val.size) (by omega)
  have l3 := num_length (x := c.fin.toNat) (by omega)
  unfold cellP
  split
  · simp only [List.append_nil]; omega
  · split
    · simp only [List.length_append, List.length_cons, List.length_nil]; omega
    · simp only [List.length_append, List.length_cons, List.length_nil, dat_size]; omega
theorem gen_whole {key : ByteArray} {p : Pa} (h : GenPa key p) (hk : key.size ≤ 100) : (wholeP key p.gone (p.ps.map (·.1))).length ≤ 80000 ∧ 4 ≤ (wholeP key p.gone (p.ps.map (·.1))).length + (if key.size = 0 then 1 else 0) := by
  have hp := gen_ptB h hk
  have hok := ptB_ok hp
  have hl := h.rows.len
  unfold ptB at hp
  simp only [Bool.and_eq_true] at hp
  obtain ⟨h1, h2, h3, h4, h5⟩ := hok
  have l1 := num_length (x := key.size) (by omega)
  have l3 := num_length (x := p.gone.toNat) (by omega)
  have l5 := num_length (x := (p.ps.map (·.1)).length) (by omega)
  have l6 := flat_le (f := rowP) (n := 19000) (l := p.ps.map (·.1)) (fun c hc => by
    have hok := h5 c hc
    have hr := rsB_ok hp.2 c hc
    unfold rwB at hr
    simp only [Bool.and_eq_true] at hr
    obtain ⟨_, _, _, _, _, _, g⟩ := hdB_parts hr.1
    have g' := of_decide_eq_false g
    obtain ⟨k1, k2, k3, k4, k5, k6, k7, k8⟩ := hok
    have m1 := num_length (x := c.key.size) (by omega)
    have m2 := cellP_le k2
    have m3 := num_length (x := c.gone.toNat) (by omega)
    have m4 := num_length (x := c.shade.toNat) (by omega)
    have m5 := num_length (x := c.cols.length) (by omega)
    have m6 := flat_le (f := colP) (fun c hc => colP_le (k8 c hc))
    unfold rowP
    simp only [List.length_append, dat_size]
    omega)
  have n1 : ∀ x, 1 ≤ (num x).length := fun x => by unfold num; simp
  have a1 := n1 key.size
  have a2 := n1 p.gone.toNat
  have a3 := n1 (p.ps.map (·.1)).length
  unfold wholeP
  simp only [List.length_append, dat_size]
  constructor
  · omega
  · split <;> omega
theorem nmK_size (k : Nat) : (nmK k).size = 1 := by
  match k with
  | 0 => rfl
  | 1 => rfl
  | 2 => rfl
  | _ + 3 => rfl
theorem cellN_size (n : Int) (_ : 0 ≤ n) : (cellN n).val.size ≤ 1 := by
  have xs : ∀ i : Nat, i < 3 → ((⟨#[120, 121, 122]⟩ : ByteArray).extract i (i + 1)).size = 1 := by decide
  unfold cellN
  split
  · exact Nat.zero_le _
  · have e1 : (n / 28 % 3 + 1).toNat = (n / 28 % 3).toNat + 1 := by omega
    have e2 := xs (n / 28 % 3).toNat (by omega)
    rw [← e1] at e2
    simp only
    rw [e2]
    exact Nat.le_refl 1
theorem gen_colP {k : Nat} {l : List Co} (h : GenCols k l) : ∀ c ∈ l, (colP c).length ≤ 39 := by
  induction h with
  | nil => nofun
  | skip _ ih => exact ih
  | @put k l n _ hn ih =>
    intro c hc
    rcases List.mem_append.1 hc with hc | hc
    · exact ih c hc
    · rw [List.mem_singleton.1 hc]
      have h1 := cellP_few (checkC_ok (cellN_ok n hn).1) (cellN_size n hn)
      have h2 := num_length (x := (nmK k).size) (by rw [nmK_size]; decide)
      unfold colP
      simp only [List.length_append, dat_size, nmK_size] at h2 ⊢
      omega
theorem gen_rowP {r : Ro} (h : GenRow r) (hk : r.key.size = 8) : (rowP r).length ≤ 300 := by
  have hok := rwB_ok (gen_rwB h (by omega))
  have hl := h.cols.len
  have hv : r.live.val.size ≤ 0 := by rw [h.live.1]; decide
  obtain ⟨h1, h2, h3, h4, h5, h6, h7, h8⟩ := hok
  have l1 := num_length (x := r.key.size) (by omega)
  have l2 := cellP_few h2 hv
  have l3 := num_length (x := r.gone.toNat) (by omega)
  have l4 := num_length (x := r.shade.toNat) (by omega)
  have l5 := num_length (x := r.cols.length) (by omega)
  have l6 := flat_le (f := colP) (fun c hc => gen_colP h.cols c hc)
  unfold rowP
  simp only [List.length_append, dat_size]
  omega
theorem gen_rowsP {k : Nat} {l : List Ro} (h : GenRows k l) : ∀ r ∈ l, (rowP r).length ≤ 300 := by
  induction h with
  | nil => nofun
  | skip _ ih => exact ih
  | @put k l r _ hr hkey ih =>
    intro c hc
    rcases List.mem_append.1 hc with hc | hc
    · exact ih c hc
    · rw [List.mem_singleton.1 hc]
      exact gen_rowP hr (by rw [hkey, ik_size])
theorem gen_wholeP {key : ByteArray} {p : Pa} (h : GenPa key p) (hk : key.size ≤ 100) : (wholeP key p.gone (p.ps.map (·.1))).length ≤ 1400 := by
  have hok := ptB_ok (gen_ptB h hk)
  have hl := h.rows.len
  obtain ⟨h1, h2, h3, h4, h5⟩ := hok
  have l1 := num_length (x := key.size) (by omega)
  have l3 := num_length (x := p.gone.toNat) (by omega)
  have l5 := num_length (x := (p.ps.map (·.1)).length) (by omega)
  have l6 := flat_le (f := rowP) (gen_rowsP h.rows)
  unfold wholeP
  simp only [List.length_append, dat_size]
  omega
end Go.Proofs.YtcmgeccgahakbaaDoor

/- A world in which one block may have turned. -/
namespace Go.Proofs.YtcmgeccgahakbaaDoor
open Go Go.RowKit

/-- All blocks but one stay. -/
structure Touch9 (w w' : World) (q : Nat) : Prop where
  os : w'.os = w.os
  tape : w'.tape = w.tape
  output : w'.output = w.output
  size : w.heap.size ≤ w'.heap.size
  block : ∀ k, k < w.heap.size → k ≠ q → w'.heap[k]? = w.heap[k]?
theorem Touch9.set (w : World) {q : Nat} (i : Nat) (u : Value) : Touch9 w (w.setCell ⟨q, i, none⟩ u) q := ⟨rfl, rfl, rfl, by rw [Deep.nblk_setCell]; exact Nat.le_refl _, fun k _ hn => heap_setCell_other _ _ _ _ hn⟩
theorem Touch9.more {w a b : World} {q : Nat} (h : Touch9 w a q) (hE : Ext a b) : Touch9 w b q := ⟨hE.os.trans h.os, hE.tape.trans h.tape, hE.output.trans h.output, Nat.le_trans h.size hE.size, fun k hk hn => (hE.block k (Nat.lt_of_lt_of_le hk h.size)).trans (h.block k hk hn)⟩
theorem Touch9.grown {w a b : World} {q : Nat} {r : Option Nat} (h : Touch9 w a q) (hg : a.grownBy b r) (hr : ∀ k, r = some k → w.heap.size ≤ k) : Touch9 w b q := ⟨hg.os.trans h.os, hg.tape.trans h.tape, hg.output.trans h.output, Nat.le_trans h.size hg.size, fun k hk hn => (hg.block k (Nat.lt_of_lt_of_le hk h.size) (fun e => by have := hr k e.symm; omega)).trans (h.block k hk hn)⟩
theorem Touch9.put {w a : World} {q : Nat} (h : Touch9 w a q) (i : Nat) (u : Value) : Touch9 w (a.setCell ⟨q, i, none⟩ u) q := ⟨h.os, h.tape, h.output, by rw [Deep.nblk_setCell]; exact h.size, fun k hk hn => (heap_setCell_other _ _ _ _ hn).trans (h.block k hk hn)⟩
theorem Touch9.slice {w a : World} {q : Nat} (h : Touch9 w a q) {v : Value} {n : Nat} {xs : List Value} (hs : SliceIn w v n xs) (hv : ∀ b o k c, v = .slice (some ⟨b, o, none⟩) k c → b ≠ q) : SliceIn a v n xs := by
  obtain ⟨ad, c, rfl, hc, hcm, ha, hcell⟩ := hs
  refine ⟨ad, c, rfl, hc, hcm, ha, fun j x hj => ?_⟩
  obtain ⟨b, o, rfl, hx⟩ := hcell j x hj
  have hne := hv b o n c rfl
  have hl := World.block_lt_of_cell? w _ hx
  refine ⟨b, o, rfl, ?_⟩
  rw [World.cell?_of_block (w := w) (h.block b hl hne)]
  exact hx
theorem Touch9.box {w a : World} {q p : Nat} (h : Touch9 w a q) {cs : Array Value} {e : TypeId} (hb : BoxAt w p cs e) (hp : p ≠ q) : BoxAt a p cs e := by
  have hl := hb.lt
  unfold BoxAt at *
  rw [h.block p hl hp]; exact hb
theorem Touch9.ext {w0 w a : World} {q : Nat} (h : Touch9 w a q) (hE : Ext w0 w) (hq : w0.heap.size ≤ q) : Ext w0 a := ⟨h.os.trans hE.os, h.tape.trans hE.tape, h.output.trans hE.output, Nat.le_trans hE.size h.size, fun k hk => (h.block k (Nat.lt_of_lt_of_le hk hE.size) (by omega)).trans (hE.block k hk)⟩
theorem Touch9.put2 {w a : World} {q p : Nat} (h : Touch9 w a q) (hp : w.heap.size ≤ p) (i : Nat) (u : Value) : Touch9 w (a.setCell ⟨p, i, none⟩ u) q := ⟨h.os, h.tape, h.output, by rw [Deep.nblk_setCell]; exact h.size, fun k hk hn => (heap_setCell_other _ _ _ _ (by show k ≠ p; omega)).trans (h.block k hk hn)⟩
theorem slice_off {w : World} {q i : Nat} {u v : Value} {n : Nat} {xs : List Value} (h : SliceIn w v n xs) (hv : ∀ b o k c, v = .slice (some ⟨b, o, none⟩) k c → b ≠ q) : SliceIn (w.setCell ⟨q, i, none⟩ u) v n xs := by
  obtain ⟨a, c, rfl, hc, hcm, ha, hcell⟩ := h
  refine ⟨a, c, rfl, hc, hcm, ha, fun j x hj => ?_⟩
  obtain ⟨b, o, rfl, hx⟩ := hcell j x hj
  have hne := hv b o n c rfl
  refine ⟨b, o, rfl, ?_⟩
  rw [World.cell?_of_block (w := w) (heap_setCell_other _ _ _ _ hne)]
  exact hx
theorem off_blk {b0 q : Nat} (h : b0 ≠ q) (n0 c0 : Nat) : ∀ b o k c, (.slice (some ⟨b0, 0, none⟩) n0 c0 : Value) = .slice (some ⟨b, o, none⟩) k c → b ≠ q := by
  intro b o k c e
  cases e
  exact h

end Go.Proofs.YtcmgeccgahakbaaDoor
