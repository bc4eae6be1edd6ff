/- pack.Part of any partition. -/
import Derived.Test.YtimbikbbbfpeeaaGreatDoorP30
import Derived.Test.YtimbikbbbfpeeaaGreatDoorP26
import Derived.Test.YtimbikbbbfpeeaaGreatDoorP29
import Derived.Test.YtimbikbbbfpeeaaGreatDoorP27
import Derived.Test.YtimbikbbbfpeeaaGreatDoorP5
set_option linter.unusedSimpArgs false
set_option linter.unusedVariables false
namespace Go.Proofs.YtimbikbbbfpeeaaGreatDoor
open Go Go.RowKit
attribute [local go_sem] yields yUpon

theorem stampB_le {v : Int} (h : stampB v = true) : 0 ≤ v ∧ v ≤ 1099511627776 := by
  unfold stampB at h
  simpa using h
theorem checkC_ok {c : Cl} (h : checkC c.val c.dead c.at_ c.fin = true) : OkC c := by
  unfold checkC at h
  simp only [Bool.and_eq_true] at h
  obtain ⟨⟨h1, h2⟩, h3⟩ := h
  have a := stampB_le h1
  have b := stampB_le h2
  refine ⟨a.1, a.2, b.1, b.2, ?_⟩
  have hs : ∀ s : ByteArray, s.toList = [] → s.size = 0 := by
    intro s hs
    rw [ByteArray.toList_eq] at hs
    rw [← dat_size, hs]
    rfl
  split at h3
  · simp only [Bool.and_eq_true] at h3
    have := hs c.val (by simpa using h3.1.1)
    omega
  · split at h3
    · simp only [Bool.and_eq_true] at h3
      have := hs c.val (by simpa using h3.1)
      omega
    · have := of_decide_eq_true h3
      omega
theorem csB_ok : ∀ {l : List Co} {p : Option ByteArray}, csB p l = true → ∀ c ∈ l, OkCo c ∧ nameB c.name = true ∧ checkC c.cell.val c.cell.dead c.cell.at_ c.cell.fin = true ∧ 0 < c.cell.at_
  | [], _, _, _, hc => by cases hc
  | d :: l, p, h, c, hc => by
    rw [csB_cons] at h
    simp only [Bool.and_eq_true] at h
    obtain ⟨⟨⟨⟨h1, h2⟩, h3⟩, h4⟩, h5⟩ := h
    rcases List.mem_cons.1 hc with rfl | hc
    · refine ⟨⟨?_, checkC_ok h3⟩, h1, h3, of_decide_eq_true h4⟩
      unfold nameB at h1
      simp only [Bool.and_eq_true] at h1
      have := of_decide_eq_true h1.2.2
      omega
    · exact csB_ok h5 c hc
theorem rwB_ok {r : Ro} (h : rwB r = true) : OkR r := by
  unfold rwB at h
  simp only [Bool.and_eq_true] at h
  obtain ⟨a, b, c, d, e, f, g⟩ := hdB_parts h.1
  have a' := of_decide_eq_false a
  have g' := of_decide_eq_false g
  have e' := stampB_le e
  have f' := stampB_le f
  exact ⟨by omega, checkC_ok b, e'.1, e'.2, f'.1, f'.2, by omega, fun x hx => (csB_ok h.2 x hx).1⟩
theorem rsB_ok : ∀ {l : List Ro} {p : Option ByteArray}, rsB p l = true → ∀ r ∈ l, rwB r = true
  | [], _, _, _, hr => by cases hr
  | d :: l, p, h, r, hr => by
    unfold rsB at h
    simp only [Bool.and_eq_true] at h
    rcases List.mem_cons.1 hr with rfl | hr
    · exact h.1.1
    · exact rsB_ok h.2 r hr
theorem ptB_ok {k : ByteArray} {g : Int} {l : List Ro} (h : ptB k g l = true) : OkP k g l := by
  unfold ptB at h
  simp only [Bool.and_eq_true, Bool.not_eq_true'] at h
  obtain ⟨⟨⟨⟨h1, h2⟩, h3⟩, h4⟩, h5⟩ := h
  have a := of_decide_eq_false h1
  have b := of_decide_eq_false h2
  have c := of_decide_eq_false h3
  have d := of_decide_eq_false h4
  exact ⟨by omega, by omega, by omega, by omega, fun r hr => rwB_ok (rsB_ok h5 r hr)⟩
/-- What Part answers: bytes, error. -/
def partR (k : ByteArray) (g : Int) (l : List Ro) : List UInt8 × Int := if ptB k g l then (if (wholeP k g l).length ≤ 262144 then (wholeP k g l, 0) else ([], 2)) else ([], 1)

set_option maxRecDepth 100000 in
set_option maxHeartbeats 2000000 in
theorem pk_part (k : ByteArray) (g : Int) (u : Value) (ps : List (Ro × Value)) (w : World) (hin : RowsIn w u ps) (hlow : ∀ p ∈ ps, ∀ c ∈ p.1.cols, c.name.size ≤ 1000000) (hT : TabU w) :
    Calls Tryz.prog 136 #[.agg #[.string k, .int .i64 g, u]] w fun e w' => ∃ v', e = .returned (.tuple #[v', .int .i64 (partR k g (ps.map (·.1))).2]) ∧ OwnB w' w.heap.size v' (partR k g (ps.map (·.1))).1 ∧ Ext w w' := by
  have hE0 := (Ext.refl w).alloc (.cells #[.string k, .int .i64 g, u] 52)
  have hbx := BoxAt.made w #[.string k, .int .i64 g, u] 52
  have hin0 := hin.ext hE0
  have hT0 := hT.ext hE0
  obtain ⟨au, cu, rfl, _⟩ := hin.get
  cases hq : ptB k g (ps.map (·.1))
  · have e : Hid (partR k g (ps.map (·.1)) = ([], 1)) := Lib.hid (by unfold partR; rw [hq]; rfl)
    rw [e.out]
    have HQ := Lib.hid hq
    clear hq e
    go_enter Tryz.func136, Tryz.ntmps136
    go_wp2_with (go_at_call 72; go_must (refine (pcheck_gen k g _ ps _ hin0 hlow hT0).mono ?_); rintro e w1 ⟨rfl, hE1⟩; rw [HQ.out])
    go_ret2
    exact ⟨_, rfl, World.ownsRow_nil _ _ _ _, hE0.trans hE1⟩
  · have hok := ptB_ok hq
    have hwl := wholeP_le hok
    have HQ := Lib.hid hq
    have HO := Lib.hid hok
    by_cases hlen : (wholeP k g (ps.map (·.1))).length ≤ 262144
    · have e : Hid (partR k g (ps.map (·.1)) = (wholeP k g (ps.map (·.1)), 0)) := Lib.hid (by unfold partR; rw [hq, if_pos hlen]; rfl)
      rw [e.out]
      obtain ⟨L, hL⟩ : ∃ L, L = wholeP k g (ps.map (·.1)) := ⟨_, rfl⟩
      have hlt : ¬ (262144 : Int) < (L.length : Int) := by rw [hL]; omega
      have HL := Lib.hid hL
      rw [← hL]
      clear hq e hlen hL hwl hok
      go_enter Tryz.func136, Tryz.ntmps136
      go_wp2_with (first
        | (go_at_call 72; go_must (refine (pcheck_gen k g _ ps _ hin0 hlow hT0).mono ?_); rintro e w1 ⟨rfl, hE1⟩; rw [HQ.out]; have hb1 := hbx.ext hE1; have c0 : w1.cell? ⟨w.heap.size, 0, none⟩ = some (.string k) := hb1.cell 0; have c1 : w1.cell? ⟨w.heap.size, 1, none⟩ = some (.int .i64 g) := hb1.cell 1; have c2 : w1.cell? ⟨w.heap.size, 2, none⟩ = some (.slice au ps.length cu) := hb1.cell 2)
        | (go_at_call 76; go_must (refine (pk_whole k g _ ps HO.out _ (hin0.ext hE1)).mono ?_); rintro e w2 ⟨v2, rfl, ho2, hE2⟩; rw [← HL.out] at ho2; have ho2' := ho2; obtain ⟨a2, n2, rfl⟩ := ownB_shapeP ho2'))
      go_ret2
      exact ⟨_, rfl, OwnB.base ho2 (hE0.trans hE1).le, (hE0.trans hE1).trans hE2⟩
    · have e : Hid (partR k g (ps.map (·.1)) = ([], 2)) := Lib.hid (by unfold partR; rw [hq, if_neg hlen]; rfl)
      rw [e.out]
      obtain ⟨L, hL⟩ : ∃ L, L = wholeP k g (ps.map (·.1)) := ⟨_, rfl⟩
      have hlt : decide ((262144 : Int) < (L.length : Int)) = true := by rw [hL]; simp; omega
      have HL := Lib.hid hL
      clear hq e hlen hL hwl hok
      go_enter Tryz.func136, Tryz.ntmps136
      go_wp2_with (first
        | (go_at_call 72; go_must (refine (pcheck_gen k g _ ps _ hin0 hlow hT0).mono ?_); rintro e w1 ⟨rfl, hE1⟩; rw [HQ.out]; have hb1 := hbx.ext hE1; have c0 : w1.cell? ⟨w.heap.size, 0, none⟩ = some (.string k) := hb1.cell 0; have c1 : w1.cell? ⟨w.heap.size, 1, none⟩ = some (.int .i64 g) := hb1.cell 1; have c2 : w1.cell? ⟨w.heap.size, 2, none⟩ = some (.slice au ps.length cu) := hb1.cell 2)
        | (go_at_call 76; go_must (refine (pk_whole k g _ ps HO.out _ (hin0.ext hE1)).mono ?_); rintro e w2 ⟨v2, rfl, ho2, hE2⟩; rw [← HL.out] at ho2; have ho2' := ho2; obtain ⟨a2, n2, rfl⟩ := ownB_shapeP ho2'))
      go_ret2
      exact ⟨_, rfl, World.ownsRow_nil _ _ _ _, (hE0.trans hE1).trans hE2⟩
end Go.Proofs.YtimbikbbbfpeeaaGreatDoor

/- pack.Batch of any batch. (what a smaller cut has) -/
namespace Go.Proofs.YtimbikbbbfpeeaaGreatDoor
open Go Go.RowKit
attribute [local go_sem] yields yUpon

def mutQ (t k : ByteArray) (g : Int) (rs : List Ro) : List UInt8 := num t.size ++ t.data.toList ++ num (wholeP k g rs).length ++ wholeP k g rs
def mutP (m : Mt) : List UInt8 := mutQ m.table m.pa.key m.pa.gone (m.pa.ps.map (·.1))
def notP (n : Nt) : List UInt8 := num n.id.toNat ++ num n.body.size ++ n.body.data.toList
def batP (M : List Mt) (A : List Nt) (D : List Int) : List UInt8 := num M.length ++ M.flatMap mutP ++ num A.length ++ A.flatMap notP ++ num D.length ++ D.flatMap fun d => num d.toNat
/-- What Batch answers. -/
def batR (M : List Mt) (A : List Nt) (D : List Int) : List UInt8 × Int := if cbG M A D then (if (batP M A D).length ≤ 262144 then (batP M A D, 0) else ([], 2)) else ([], 1)

theorem rowP_le8 {r : Ro} (h : rwB r = true) : (rowP r).length ≤ 19000 := by
  have hok := rwB_ok h
  unfold rwB at h
  simp only [Bool.and_eq_true] at h
  obtain ⟨_, _, _, _, _, _, g⟩ := hdB_parts h.1
  have g' := of_decide_eq_false g
  obtain ⟨h1, h2, h3, h4, h5, h6, h7, h8⟩ := hok
  have l1 := num_length (x := r.key.size) (by omega)
  have l2 := cellP_le h2
  have l3 := num_length (x := r.gone.toNat) (by omega)
  have l4 := num_length (x := r.shade.toNat) (by omega)
  have l5 := num_length (x := r.cols.length) (by omega)
  have l6 := flat_le (f := colP) (fun c hc => colP_le (h8 c hc))
  unfold rowP
  simp only [List.length_append, dat_size]
  omega
theorem wholeP_le8 {k : ByteArray} {g : Int} {rs : List Ro} (h : ptB k g rs = true) : (wholeP k g rs).length ≤ 1910000 := by
  have hok := ptB_ok h
  unfold ptB at h
  simp only [Bool.and_eq_true, Bool.not_eq_true'] at h
  obtain ⟨⟨⟨⟨_, _⟩, _⟩, h4⟩, h5⟩ := h
  have d := of_decide_eq_false h4
  obtain ⟨h1, h2, h3, _, _⟩ := hok
  have l1 := num_length (x := k.size) (by omega)
  have l3 := num_length (x := g.toNat) (by omega)
  have l5 := num_length (x := rs.length) (by omega)
  have l6 := flat_le (f := rowP) (fun c hc => rowP_le8 (rsB_ok h5 c hc))
  unfold wholeP
  simp only [List.length_append, dat_size]
  omega
theorem nameB_size {s : ByteArray} (h : nameB s = true) : s.size ≤ 100 := by
  unfold nameB at h
  simp only [Bool.and_eq_true] at h
  exact of_decide_eq_true h.2.2
theorem mutP_le {m : Mt} (h : okMt m = true) : (mutP m).length ≤ 1910200 := by
  unfold okMt at h
  simp only [Bool.and_eq_true] at h
  have h1 := nameB_size h.1
  have h2 := wholeP_le8 h.2
  have l1 := num_length (x := m.table.size) (by omega)
  have l2 := num_length (x := (wholeP m.pa.key m.pa.gone (m.pa.ps.map (·.1))).length) (by omega)
  unfold mutP mutQ
  simp only [List.length_append, dat_size]
  omega
theorem notP_le {n : Nt} (h : okNt n = true) : (notP n).length ≤ 4200 := by
  unfold okNt idB at h
  simp only [Bool.and_eq_true, decide_eq_true_eq] at h
  have l1 := num_length (x := n.id.toNat) (by omega)
  have l2 := num_length (x := n.body.size) (by omega)
  unfold notP
  simp only [List.length_append, dat_size]
  omega
theorem flat_takeD {f : Int → List UInt8} {l : List Int} {k : Nat} (hk : k < l.length) : (l.take (k + 1)).flatMap f = (l.take k).flatMap f ++ f l[k] := flat_take (List.drop_eq_getElem_cons hk)
theorem flat_takeLe {α : Type} {f : α → List UInt8} {n : Nat} {l : List α} {k m : Nat} (h : ∀ c ∈ l, (f c).length ≤ n) (hm : k ≤ m) : ((l.take k).flatMap f).length ≤ m * n := by
  have h1 := flat_le (f := f) (n := n) (l := l.take k) (fun c hc => h c (List.mem_of_mem_take hc))
  have h2 : (l.take k).length ≤ m := by rw [List.length_take]; omega
  exact Nat.le_trans h1 (Nat.mul_le_mul_right n h2)
end Go.Proofs.YtimbikbbbfpeeaaGreatDoor

/- Batches as plain data: what pack's reader makes of bytes; what may be; the bytes of it. -/
namespace Go.Proofs.YtimbikbbbfpeeaaGreatDoor
open Go Go.RowKit

def mutR (B : List UInt8) (s : Nat × Int) : Mq × (Nat × Int) :=
  (⟨(txtR B s).1, (prtR (txtR B (txtR B s).2).1.data.toList (0, (txtR B (txtR B s).2).2.2)).1⟩, failR (prtR (txtR B (txtR B s).2).1.data.toList (0, (txtR B (txtR B s).2).2.2)).2.2 (txtR B (txtR B s).2).2)
def noteR (B : List UInt8) (s : Nat × Int) : Nt × (Nat × Int) := (⟨((numR B s).1 : Int), (txtR B (numR B s).2).1⟩, (txtR B (numR B s).2).2)
def numIR (B : List UInt8) (s : Nat × Int) : Int × (Nat × Int) := (((numR B s).1 : Int), (numR B s).2)
structure Bt where
  muts : List Mq
  add : List Nt
  drop : List Int
def btR (B : List UInt8) (s : Nat × Int) : Bt × (Nat × Int) :=
  (⟨(listR B (mutR B) s).1, (listR B (noteR B) (listR B (mutR B) s).2).1, (listR B (numIR B) (listR B (noteR B) (listR B (mutR B) s).2).2).1⟩,
   endR B (listR B (numIR B) (listR B (noteR B) (listR B (mutR B) s).2).2).2)
def okMq (x : Mq) : Bool := nameB x.table && ptB x.pt.key x.pt.gone x.pt.rows
def cbQ (b : Bt) : Bool := decide (b.muts.length ≤ 64) && decide (b.add.length ≤ 300) && decide (b.drop.length ≤ 300) && b.muts.all okMq && b.add.all okNt && b.drop.all idB
theorem cbG_q (M : List Mt) (A : List Nt) (D : List Int) : cbG M A D = cbQ ⟨M.map Mt.q, A, D⟩ := by
  unfold cbG cbQ
  simp only [List.length_map, List.all_map]
  rfl
def mutE (x : Mq) : List UInt8 := mutQ x.table x.pt.key x.pt.gone x.pt.rows
def batQ (b : Bt) : List UInt8 := num b.muts.length ++ b.muts.flatMap mutE ++ num b.add.length ++ b.add.flatMap notP ++ num b.drop.length ++ b.drop.flatMap fun d => num d.toNat
theorem batP_q (M : List Mt) (A : List Nt) (D : List Int) : batP M A D = batQ ⟨M.map Mt.q, A, D⟩ := by
  unfold batP batQ
  simp only [List.length_map, List.flatMap_map]
  rfl
/-- What GetBatch answers. -/
def gB (l : List UInt8) : Bt × (Nat × Int) := btR l (0, if l.length ≤ 262144 then 0 else 2)
def gbErr (l : List UInt8) : Int := if (gB l).2.2 = 0 then (if cbQ (gB l).1 then 0 else 1) else (gB l).2.2
def gbBt (l : List UInt8) : Bt := if gbErr l = 0 then (gB l).1 else ⟨[], [], []⟩

theorem mutR_low (B : List UInt8) (s : Nat × Int) : (mutR B s).1.table.size ≤ B.length ∧ ∀ r ∈ (mutR B s).1.pt.rows, ∀ c ∈ r.cols, c.name.size ≤ B.length := by
  refine ⟨txtR_size B s, fun r hr c hc => ?_⟩
  have h1 := prtR_low (txtR B (txtR B s).2).1.data.toList (0, (txtR B (txtR B s).2).2.2) r hr c hc
  have h2 := txtR_size B (txtR B s).2
  rw [dat_size] at h1
  omega
theorem btR_low (B : List UInt8) (s : Nat × Int) : (∀ x ∈ (btR B s).1.muts, x.table.size ≤ B.length ∧ ∀ r ∈ x.pt.rows, ∀ c ∈ r.cols, c.name.size ≤ B.length) ∧ ∀ n ∈ (btR B s).1.add, n.body.size ≤ B.length :=
  ⟨manyR_all (P := fun x : Mq => x.table.size ≤ B.length ∧ ∀ r ∈ x.pt.rows, ∀ c ∈ r.cols, c.name.size ≤ B.length) (fun s => mutR_low B s) _ _, manyR_all (P := fun n : Nt => n.body.size ≤ B.length) (fun s => txtR_size B (numR B s).2) _ _⟩
end Go.Proofs.YtimbikbbbfpeeaaGreatDoor
