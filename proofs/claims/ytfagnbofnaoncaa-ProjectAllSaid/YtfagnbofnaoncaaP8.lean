/- A slice of integers that comes in, read. -/
import Derived.Test.YtfagnbofnaoncaaP1
import Derived.ProofKit
import Derived.ChangeSlices
import Derived.WideShapes
import Derived.Test.YtfagnbofnaoncaaP5
import Derived.Test.YtfagnbofnaoncaaP7
import Derived.Test.YtfagnbofnaoncaaP2
import Derived.Laws.OwnMore
import Derived.Deep.MidRow
import Derived.Test.YtfagnbofnaoncaaP6
set_option linter.unusedSimpArgs false
set_option linter.unusedVariables false
namespace Go.Proofs.Ytfagnbofnaoncaa
open Go Go.RowKit Go.ChangeShapes Go.WideShapes Go.ChangeAt

/-- The cells of a list of integers. -/
def kcells (k : IntKind) (l : List Int) : List Value := l.map (Value.int k)
@[simp] theorem kcells_length (k : IntKind) (l : List Int) : (kcells k l).length = l.length := by simp [kcells]
theorem kcells_get (k : IntKind) (l : List Int) (i : Nat) : (kcells k l)[i]? = l[i]?.map (Value.int k) := by simp [kcells]
/-- v is a slice of integers that reads as l. -/
def IntsIn (w : World) (v : Value) (k : IntKind) (l : List Int) : Prop := SliceIn w v l.length (kcells k l)
theorem IntsIn.ext {w w' : World} (hE : Ext w w') {v : Value} {k : IntKind} {l : List Int} (h : IntsIn w v k l) : IntsIn w' v k l := SliceIn.ext hE h

theorem read_ints {P : Program} {H : Type} {enc : TypeId × Value → H} {W : World} {base : Nat} {t e : TypeId} {k : IntKind} {v : Value} {d : DataW H} {p : List MemPlace} (ht : P.underlying t = some (.slice e)) (he : P.underlying e = some (.int k)) (hc : P.cellsOf e = 1)
    (hv : Value.okWide P W .any base t v) (h : DataW.Trod enc P W 0 (fun _ => true) true t v d p) : ∃ l : List Int, IntsIn W v k l ∧ ∀ n ∈ l, (Lit.int k n).wf = true := by
  obtain ⟨a, len, cap, rfl⟩ := okWide_slice ht hv
  obtain ⟨fuel, hf⟩ := h
  rcases open_ints ht he hc hf with ⟨hcs, _⟩ | ⟨x, l, c, zs, hcs, _, hl, hm, hz, _, hcell, hwz⟩
  · simp [Value.cells] at hcs
    obtain ⟨rfl, rfl, rfl⟩ := hcs
    exact ⟨[], SliceIn.nil W, by simp⟩
  · simp [Value.cells] at hcs
    obtain ⟨rfl, rfl, rfl⟩ := hcs
    have hz' : zs.length = cap := by simpa using hz
    refine ⟨zs.take len, ?_, fun n hn => hwz n (List.mem_of_mem_take hn)⟩
    have hlen : (zs.take len).length = len := by simp; omega
    unfold IntsIn
    rw [hlen]
    refine ⟨some x, cap, rfl, hl, hm, nofun, fun j u hj => ?_⟩
    rw [kcells_get, List.getElem?_take] at hj
    split at hj
    · rename_i hlt
      have hjz : j < zs.length := by omega
      have hc := hcell j hjz
      have h0 := hcell 0 (by omega)
      obtain ⟨b, o, s⟩ := x
      have hs : s = none := by
        cases s with
        | none => rfl
        | some s =>
          simp only [Addr.add, if_pos] at h0
          unfold World.cell? at h0
          split at h0 <;> simp at h0
      subst hs
      refine ⟨b, o, rfl, ?_⟩
      rw [Addr.add_lit] at hc
      rw [hc, List.getD_eq_getElem?_getD]
      rw [List.getElem?_eq_getElem hjz] at hj ⊢
      simp at hj ⊢
      exact hj
    · cases hj
end Go.Proofs.Ytfagnbofnaoncaa

/- What makes things by numbers: L.Next, L.Cell. (what a smaller cut has) -/
namespace Go.Proofs.Ytfagnbofnaoncaa
open Go Go.RowKit
attribute [local go_sem] yields yUpon

/-- The next number, the numbers behind it. -/
def nextN (l : List Int) (n : Int) : Int := match l with | [] => 0 | x :: _ => x % n
theorem IntsIn.block {w : World} {v : Value} {k : IntKind} {l : List Int} (h : IntsIn w v k l) : ∃ a c, v = .slice a l.length c ∧ l.length ≤ c ∧ c ≤ maxLen ∧ (a = none → c = 0) := by
  obtain ⟨a, c, h1, h2, h3, h4, _⟩ := h
  exact ⟨a, c, h1, h2, h3, h4⟩

theorem ints_tail {W : World} {b o c : Nat} {x : Int} {l : List Int} {k : IntKind} (hcm : c ≤ maxLen) (hcell : ∀ j u, (kcells k (x :: l))[j]? = some u → ∃ b' o', (some ⟨b, o, none⟩ : Option Addr) = some ⟨b', o', none⟩ ∧ W.cell? ⟨b', o' + j, none⟩ = some u) (hc : l.length + 1 ≤ c) :
    IntsIn W (.slice (some ⟨b, o + 1, none⟩) l.length (c - 1)) k l :=
  ⟨_, c - 1, rfl, by omega, by omega, nofun, fun j u hj => by
    obtain ⟨b', o', e, hc⟩ := hcell (j + 1) u (by simpa [kcells] using hj)
    cases e
    exact ⟨b, o + 1, rfl, by rw [show o + 1 + j = o + (j + 1) by omega]; exact hc⟩⟩

/-- A cell by a number. -/
def cellN (v : Int) : Cl := if v / 7 % 4 = 0 then ⟨⟨#[]⟩, true, 1 + v % 7, 0⟩ else ⟨(⟨#[120, 121, 122]⟩ : ByteArray).extract (v / 28 % 3).toNat (v / 28 % 3 + 1).toNat, false, 1 + v % 7, if v / 84 % 4 = 0 then 1 + v / 336 % 10 else 0⟩

/-! ### The same, whether or not numbers are left -/
theorem grownBy_set {w : World} (p : Nat) (v : Value) : w.grownBy (w.setCell ⟨p, 0, none⟩ v) (some p) :=
  ⟨rfl, rfl, rfl, by rw [Deep.nblk_setCell]; exact Nat.le_refl _, fun k _ hne => Deep.blk_setCell_other _ _ _ _ (fun e => hne (by rw [e]))⟩
theorem grownBy_refl (w : World) (r : Option Nat) : w.grownBy w r := ⟨rfl, rfl, rfl, Nat.le_refl _, fun _ _ _ => rfl⟩
theorem grownBy_ext {a b c : World} {r : Option Nat} (h : a.grownBy b r) (hE : Ext b c) : a.grownBy c r :=
  ⟨hE.os.trans h.os, hE.tape.trans h.tape, hE.output.trans h.output, Nat.le_trans h.size hE.size, fun k hk hne => (hE.block k (Nat.lt_of_lt_of_le hk h.size)).trans (h.block k hk hne)⟩
theorem ext_grownBy {a b c : World} {r : Option Nat} (hE : Ext a b) (h : b.grownBy c r) : a.grownBy c r :=
  ⟨h.os.trans hE.os, h.tape.trans hE.tape, h.output.trans hE.output, Nat.le_trans hE.size h.size, fun k hk hne => (h.block k (Nat.lt_of_lt_of_le hk hE.size) hne).trans (hE.block k hk)⟩
theorem grownBy_trans {a b c : World} {r : Option Nat} (h : a.grownBy b r) (k : b.grownBy c r) : a.grownBy c r :=
  ⟨k.os.trans h.os, k.tape.trans h.tape, k.output.trans h.output, Nat.le_trans h.size k.size, fun i hi hne => (k.block i (Nat.lt_of_lt_of_le hi h.size) hne).trans (h.block i hi hne)⟩
end Go.Proofs.Ytfagnbofnaoncaa

/- slices.DeleteFunc over columns of one's own. -/
namespace Go.Proofs.Ytfagnbofnaoncaa
open Go Go.RowKit
attribute [local go_sem] yields yUpon

theorem coCells_set (c : Co) : ∀ (l : List Co) (i : Nat), i < l.length → coCells (l.set i c) = (((((coCells l).set (i * 5) (.string c.name)).set (i * 5 + 1) (.string c.cell.val)).set (i * 5 + 2) (.bool c.cell.dead)).set (i * 5 + 3) (.int .i64 c.cell.at_)).set (i * 5 + 4) (.int .i64 c.cell.fin)
  | d :: l, 0, _ => by simp [coCells]
  | d :: l, i + 1, h => by
    have ih := coCells_set c l i (by simpa using h)
    have e : (i + 1) * 5 = i * 5 + 5 := by omega
    simp only [e, List.set_cons_succ, coCells, ih]
theorem own_cut {w : World} {B : Nat} {e : TypeId} {size : Nat} {g n cap : Nat} {X : List Value} (h : w.ownsRow B e size (.slice (some ⟨g, 0, none⟩) n cap) n X) {i : Nat} (hi : i ≤ n) : w.ownsRow B e size (.slice (some ⟨g, 0, none⟩) i cap) i (X.take (i * size)) := by
  rcases h.2 with ⟨h', _⟩ | ⟨g', cap', cur, h', hb, hg, hnc, hcm, hcs, htake⟩
  · cases h'
  · cases h'
    refine ⟨?_, .inr ⟨_, _, cur, rfl, hb, hg, Nat.le_trans hi hnc, hcm, hcs, ?_⟩⟩
    · rw [List.length_take, h.1, Nat.min_eq_left (Nat.mul_le_mul_right _ hi)]
    · rw [← htake, List.take_take, Nat.min_eq_left (Nat.mul_le_mul_right _ hi)]
theorem setCells_own {B : Nat} {e : TypeId} {size g n cap : Nat} : ∀ (vs : List Value) (o : Nat) (w : World) (X : List Value), w.ownsRow B e size (.slice (some ⟨g, 0, none⟩) n cap) n X →
    ∃ X', (w.setCells g o vs).ownsRow B e size (.slice (some ⟨g, 0, none⟩) n cap) n X' ∧ X'.take o = X.take o ∧ w.grownBy (w.setCells g o vs) (some g)
  | [], o, w, X, h => ⟨X, h, rfl, grownBy_refl w _⟩
  | u :: vs, o, w, X, h => by
    obtain ⟨h1, h2⟩ := h.stored o u
    obtain ⟨X', h3, h4, h5⟩ := setCells_own vs (o + 1) _ _ h1
    refine ⟨X', h3, ?_, grownBy_trans h2 h5⟩
    have := congrArg (List.take o) h4
    rw [List.take_take, List.take_take, Nat.min_eq_left (Nat.le_succ o)] at this
    rw [this, List.take_set_of_le (Nat.le_refl o)]
theorem und_Cols' : Try.prog.underlying 46 = some (.slice 76) := und_Cols
theorem zero_Col (w : World) : (zeroValue 76).run Try.prog w = .ok (.agg #[.string ⟨#[]⟩, .string ⟨#[]⟩, .bool false, .int .i64 0, .int .i64 0]) w := Try.zeroValue76 w
/-- 'clear' on some of a row of one's own. -/
theorem run_clear_own {B g n cap : Nat} {w : World} {X : List Value} (h : w.ownsRow B 76 5 (.slice (some ⟨g, 0, none⟩) n cap) n X) (o m c : Nat) (ty : TypeId) (hm : 0 < m) (hom : o + m * 5 ≤ n * 5) :
    ∃ w' X', (Builtin.clear_ #[46] ty #[.slice (some ⟨g, o, none⟩) m c]).run Try.prog w = .ok (.tuple #[]) w' ∧ w'.ownsRow B 76 5 (.slice (some ⟨g, 0, none⟩) n cap) n X' ∧ X'.take o = X.take o ∧ w.grownBy w' (some g) := by
  obtain ⟨zs, hz⟩ : ∃ zs, zs = (Builtin.zeroCells (Value.agg #[.string ⟨#[]⟩, .string ⟨#[]⟩, .bool false, .int .i64 0, .int .i64 0]).cells m).toList := ⟨_, rfl⟩
  have hzl : zs.length = m * 5 := by rw [hz]; simp [Builtin.zeroCells, Value.cells]
  have hz1 : ∀ v ∈ zs, v.oneCell' = true := by
    intro v hv
    rw [hz] at hv
    simp only [Builtin.zeroCells, Array.toList_map, List.mem_map] at hv
    obtain ⟨i, _, rfl⟩ := hv
    have : i % 5 < 5 := Nat.mod_lt _ (by decide)
    simp only [Value.cells]
    obtain h | h | h | h | h : i % 5 = 0 ∨ i % 5 = 1 ∨ i % 5 = 2 ∨ i % 5 = 3 ∨ i % 5 = 4 := by omega
    all_goals simp [h, Value.oneCell']
  obtain ⟨X', h1, h2, h3⟩ := setCells_own zs o w X h
  have hg : ∃ cur : Array Value, w.heap[g]? = some (.cells cur 76 (0, 0)) ∧ n * 5 ≤ cur.size := by
    rcases h.2 with ⟨h', _⟩ | ⟨g', cap', cur, h', hb, hg, hnc, hcm, hcs, htake⟩
    · cases h'
    · cases h'
      exact ⟨cur, hg, by omega⟩
  obtain ⟨cur, hgc, hsz⟩ := hg
  have hst := run_storeCells_cells (P := Try.prog) g o zs 0 w (fun j hj => by rw [var_cell hgc]; simp; omega) (fun j hj => var_free hgc _) hz1
  simp only [Nat.add_zero] at hst
  refine ⟨_, X', ?_, h1, h2, h3⟩
  obtain ⟨k, rfl⟩ : ∃ k, m = k + 1 := ⟨m - 1, by omega⟩
  simp [Builtin.clear_, run_underlying und_Cols, zero_Col, ← hz, hst]

theorem own_put {B g n cap : Nat} {w : World} {X : List Co} (h : w.ownsRow B 76 5 (.slice (some ⟨g, 0, none⟩) n cap) n (coCells X)) (i : Nat) (hi : i < X.length) (M : Co) :
    (w.setCells g (i * 5) (co5 M).toList).ownsRow B 76 5 (.slice (some ⟨g, 0, none⟩) n cap) n (coCells (X.set i M)) ∧ w.grownBy (w.setCells g (i * 5) (co5 M).toList) (some g) := by
  rw [coCells_set M X i hi]
  obtain ⟨h1, g1⟩ := h.stored (i * 5) (.string M.name)
  obtain ⟨h2, g2⟩ := h1.stored (i * 5 + 1) (.string M.cell.val)
  obtain ⟨h3, g3⟩ := h2.stored (i * 5 + 2) (.bool M.cell.dead)
  obtain ⟨h4, g4⟩ := h3.stored (i * 5 + 3) (.int .i64 M.cell.at_)
  obtain ⟨h5, g5⟩ := h4.stored (i * 5 + 4) (.int .i64 M.cell.fin)
  exact ⟨h5, grownBy_trans g1 (grownBy_trans g2 (grownBy_trans g3 (grownBy_trans g4 g5)))⟩
theorem own_there {B g n cap : Nat} {w : World} {X : List Value} (h : w.ownsRow B 76 5 (.slice (some ⟨g, 0, none⟩) n cap) n X) (o m : Nat) (hm : o + m ≤ n * 5) : w.there g o m := by
  rcases h.2 with ⟨h', _⟩ | ⟨g', cap', cur, h', hb, hg, hnc, hcm, hcs, htake⟩
  · cases h'
  · cases h'
    exact fun j hj => ⟨by rw [var_cell hg]; simp; omega, var_free hg _⟩

def keeps (ns : List ByteArray) (c : Co) : Bool := !strikes ns c
theorem keep_start {ns : List ByteArray} {l : List Co} {k : Nat} (hk : k < l.length) (hs : strikes ns l[k] = true) (hp : (l.take k).all (fun c => !strikes ns c) = true) : l.take k = (l.take (k + 1)).filter (keeps ns) := by
  rw [List.take_succ_eq_append_getElem hk, List.filter_append]
  have h1 : (l.take k).filter (keeps ns) = l.take k := List.filter_eq_self.2 fun c hc => (List.all_eq_true.1 hp) c hc
  have h2 : [l[k]].filter (keeps ns) = [] := by simp [keeps, hs]
  rw [h1, h2, List.append_nil]
theorem keep_next {ns : List ByteArray} {l : List Co} {j : Nat} {M : Co} {R : List Co} (hd : l.drop j = M :: R) : (l.take (j + 1)).filter (keeps ns) = (l.take j).filter (keeps ns) ++ if strikes ns M = true then [] else [M] := by
  have hk : j < l.length := by
    rcases Nat.lt_or_ge j l.length with h | h
    · exact h
    · rw [List.drop_eq_nil_of_le h] at hd; cases hd
  have e : l[j] = M := by rw [List.drop_eq_getElem_cons hk] at hd; exact (List.cons.inj hd).1
  rw [List.take_succ_eq_append_getElem hk, e, List.filter_append]
  congr 1
  cases h : strikes ns M <;> simp [keeps, h]

set_option maxRecDepth 100000 in
set_option maxHeartbeats 4000000 in
theorem deleteFunc_any (v : Value) (l : List Co) (nv : Value) (ns : List ByteArray) (B : Nat) (w : World) (hB : B ≤ w.heap.size) (hlen : l.length ≤ 1000000) (hown : w.ownsRow B 76 5 v l.length (coCells l)) (hns : ∀ w', w.grownBy w' v.ownBlock → StrsIn w' nv ns) :
    Calls Try.prog 54 #[v, .func (.func 53) #[nv] #[]] w fun e w' => ∃ v', e = .returned v' ∧ w'.ownsRow B 76 5 v' (l.filter (keeps ns)).length (coCells (l.filter (keeps ns))) ∧ w.grownBy w' v.ownBlock := by
  have hcols := cols_own hown
  go_enter Try.func54, Try.ntmps54
  go_wp2_with fail
  refine (indexFunc_any v l nv ns _ hcols (hns w (grownBy_refl w _))).mono ?_
  rintro e w1 ⟨i, rfl, hE1, hcase⟩
  clear hcols
  rcases hcase with ⟨rfl, hall⟩ | ⟨k, rfl, hk, hs, hpre⟩
  · have hf : l.filter (keeps ns) = l := List.filter_eq_self.2 fun c hc => (List.all_eq_true.1 hall) c hc
    have HF := Lib.hid hf
    clear hall hf
    go_wp2_with fail
    go_ret
    exact ⟨_, rfl, by rw [HF.out]; exact ownsRow_ext hown hE1, grownBy_ext (grownBy_refl w _) hE1⟩
  · obtain ⟨g, cap, rfl, hcap, hcm⟩ : ∃ g cap, v = .slice (some ⟨g, 0, none⟩) l.length cap ∧ l.length ≤ cap ∧ cap ≤ 9223372036854775807 := by
      rcases hown.2 with ⟨_, h0⟩ | ⟨g, cap, cur, h', hb, hg, hnc, hcm, hcs, htake⟩
      · omega
      · unfold maxLen at hcm
        exact ⟨g, cap, h', hnc, by omega⟩
    have hw1 : w.grownBy w1 (some g) := grownBy_ext (grownBy_refl w _) hE1
    have hown1 := ownsRow_ext hown hE1
    have HS := Lib.hid (keep_start hk hs hpre)
    have hk1 : ((k : Int) == -1) = false := by simp only [beq_eq_false_iff_ne]; omega
    have hwk : IntKind.i64.wrap ((k : Int) + 1) = (k : Int) + 1 := by rw [IntKind.wrap_i64]; omega
    clear hs hpre hown hE1
    go_wp2_with fail
    go_loopw [5, 6] (fun si sj wr => ∃ (i j : Nat) (X : List Co), i < j ∧ j ≤ l.length ∧ si = .int .i64 i ∧ sj = .int .i64 j ∧ X.length = l.length ∧ wr.ownsRow B 76 5 (.slice (some ⟨g, 0, none⟩) l.length cap) l.length (coCells X) ∧ w.grownBy wr (some g) ∧ Hid (X.take i = (l.take j).filter (keeps ns)) ∧ Hid (X.drop j = l.drop j)) (fun _ sj _ => l.length - (intOf sj).toNat)
    case atStart => exact ⟨k, k + 1, l, by omega, hk, rfl, by go_num, rfl, hown1, hw1, HS, rfl⟩
    case round =>
      clear hown1 hw1
      obtain ⟨i, j, X, hij, hj, rfl, rfl, hXl, hownX, hgr, HT, HD⟩ := hrel
      by_cases hlt : j < l.length
      · have hcX := cols_own (l := X) (by rw [hXl]; exact hownX)
        obtain ⟨a', c', e', _, _, hcell⟩ := hcX.get
        obtain ⟨b, o, e2, hco⟩ := hcell j (by omega)
        obtain ⟨rfl, rfl⟩ : b = g ∧ o = 0 := by rw [e2] at e'; injection e' with h1 h2 h3; injection h1 with h4; injection h4 with h5 h6 h7; exact ⟨h5.symm, h6.symm⟩
        clear e' e2 hcell hcX
        obtain ⟨M, hM⟩ : ∃ M, M = X[j]'(by omega) := ⟨_, rfl⟩
        rw [← hM] at hco
        have hMl : l.drop j = M :: l.drop (j + 1) := by
          have h1 := HD.out
          rw [List.drop_eq_getElem_cons (show j < X.length by omega), ← hM, List.drop_eq_getElem_cons hlt] at h1
          rw [List.drop_eq_getElem_cons hlt, (List.cons.inj h1).1]
        have hKN := Lib.hid (keep_next (ns := ns) hMl)
        clear hM hMl
        obtain ⟨g0, g1, g2, g3, g4⟩ := hco
        rw [Nat.zero_add] at g0 g1 g2 g3 g4
        have hj1 : IntKind.i64.wrap ((j : Int) + 1) = (j : Int) + 1 := by rw [IntKind.wrap_i64]; omega
        have hi1 : IntKind.i64.wrap ((i : Int) + 1) = (i : Int) + 1 := by rw [IntKind.wrap_i64]; omega
        have hil : i < l.length := by omega
        go_wp2_with fail
        refine (not_any nv ns M _ ((hns wr hgr).ext ((Ext.refl _).alloc _))).mono ?_
        rintro e w3 ⟨rfl, hE3⟩
        have hbox3 := (BoxAt.made wr (co5 M) 76).ext hE3
        have hown3 := ownsRow_ext (ownsRow_ext hownX ((Ext.refl _).alloc _)) hE3
        have hgr3 := grownBy_ext (grownBy_ext hgr ((Ext.refl wr).alloc (.cells (co5 M) 76))) hE3
        clear g0 g1 g2 g3 g4 hE3 hownX hgr
        obtain ⟨x0, x1, x2, x3, x4⟩ := hbox3.co
        cases hb : hasS ns M.name
        · have HB := Lib.hid hb
          clear hb
          go_wp2_with fail
          go_roundw
          case rel =>
            refine ⟨i, j + 1, X, by omega, by omega, rfl, by go_num, hXl, hown3, hgr3, ?_, ?_⟩
            · show X.take i = _
              rw [hKN.out, HT.out, if_pos (by unfold strikes; rw [HB.out]; rfl), List.append_nil]
            · show X.drop (j + 1) = _
              rw [← List.drop_drop, ← List.drop_drop, HD.out]
          case measure => simp [intOf] <;> omega
        · have HB := Lib.hid hb
          clear hb
          go_wp2_with ((guard_target =~ wpList _ _ _ (Oper.mk none (Op.store _ (Operand.tmp 33) _) _ _ _ _ :: _) _ _); go_must (refine wpList_store_mid rfl 76 (.tmp 33) (.tmp 32) rfl b (i * 5) (co5 M) (by rfl) (by rfl) (own_there hown3 (i * 5) 5 (by omega)) (by kernel_rfl) (by simp [co5, Value.oneCell']) ?_))
          go_roundw
          case rel =>
            obtain ⟨ho, hg⟩ := own_put hown3 i (by omega) M
            refine ⟨i + 1, j + 1, X.set i M, by omega, by omega, by go_num, by go_num, by simpa using hXl, ho, grownBy_trans hgr3 hg, ?_, ?_⟩
            · show (X.set i M).take (i + 1) = _
              rw [hKN.out, if_neg (by unfold strikes; rw [HB.out]; decide), ← HT.out, List.take_succ_eq_append_getElem (by simp; omega), List.take_set_of_le (Nat.le_refl i)]
              simp
            · show (X.set i M).drop (j + 1) = _
              rw [List.drop_set_of_lt (by omega), ← List.drop_drop, ← List.drop_drop, HD.out]
          case measure => simp [intOf] <;> omega
      · obtain rfl : j = l.length := by omega
        rw [List.take_length] at HT
        obtain ⟨w4, X', he, ho4, htk, hg4⟩ := run_clear_own hownX (i * 5) (l.length - i) (cap - i) 0 (by omega) (by omega)
        have HE := Lib.hid he
        have hcut := own_cut ho4 (i := i) (by omega)
        rw [htk] at hcut
        have hXi : (coCells X).take (i * 5) = coCells (X.take i) := by
          have := coCells_append (X.take i) (X.drop i)
          rw [List.take_append_drop] at this
          rw [this, List.take_left' (by rw [coCells_length, List.length_take, Nat.min_eq_left (by omega)])]
        rw [hXi, HT.out] at hcut
        have hli : (l.filter (keeps ns)).length = i := by rw [← HT.out, List.length_take]; omega
        have HL := Lib.hid hli
        clear he ho4 htk hXi hli hownX
        have hil : i ≤ l.length := by omega
        go_wp2_with fail
        rw [HE.out]
        simp only [Result.andThen]
        rw [Oper.upon_value]
        go_wp2_with fail
        go_ret
        exact ⟨_, rfl, by rw [HL.out]; exact hcut, grownBy_trans hgr hg4⟩
end Go.Proofs.Ytfagnbofnaoncaa

/- What is put as a text is got: the plain law. -/
namespace Go.Proofs.Ytfagnbofnaoncaa
open Go Go.RowKit

theorem scan_back : ∀ (l acc R : List UInt8) (k : Nat), scanT acc (txt l ++ R) k = (acc ++ l, (k : Int) + (txt l).length, 0)
  | [], acc, R, k => by
    show scanT acc (0 :: 1 :: R) k = _
    rw [scanT, if_pos rfl, if_neg (by decide), if_pos rfl]
    simp [txt, esc]
  | b :: l, acc, R, k => by
    by_cases hb : b = 0
    · subst hb
      have e : txt (0 :: l) = 0 :: 255 :: txt l := by simp [txt, esc]
      rw [e]
      show scanT acc (0 :: 255 :: (txt l ++ R)) k = _
      rw [scanT, if_pos rfl, if_pos rfl, scan_back l (acc ++ [0]) R (k + 2)]
      simp
      omega
    · have e : txt (b :: l) = b :: txt l := by simp [txt, esc, hb]
      obtain ⟨c, r, hr⟩ : ∃ c r, txt l ++ R = c :: r := by
        cases h : txt l ++ R with
        | nil => simp [txt] at h
        | cons c r => exact ⟨c, r, rfl⟩
      have ih := scan_back l (acc ++ [b]) R (k + 1)
      rw [hr] at ih
      rw [e, List.cons_append, hr, scanT, if_neg hb, ih]
      simp
      omega
theorem scan_cut : ∀ (l acc : List UInt8) (j k : Nat), j < (txt l).length → scanT acc ((txt l).take j) k = ([], 0, 8)
  | [], acc, 0, k, _ => rfl
  | [], acc, 1, k, _ => rfl
  | [], acc, j + 2, k, h => by simp [txt, esc] at h; omega
  | b :: l, acc, 0, k, _ => rfl
  | b :: l, acc, j + 1, k, h => by
    by_cases hb : b = 0
    · subst hb
      have e : txt (0 :: l) = 0 :: 255 :: txt l := by simp [txt, esc]
      rw [e] at h ⊢
      cases j with
      | zero => rfl
      | succ j =>
        show scanT acc (0 :: 255 :: (txt l).take j) k = _
        rw [scanT, if_pos rfl, if_pos rfl]
        exact scan_cut l _ j _ (by simpa using h)
    · have e : txt (b :: l) = b :: txt l := by simp [txt, esc, hb]
      rw [e] at h ⊢
      rw [List.take_succ_cons]
      have ih := scan_cut l (acc ++ [b]) j (k + 1) (by simpa using h)
      cases hr : (txt l).take j with
      | nil => rfl
      | cons c r => rw [scanT, if_neg hb, ← hr, ih]

theorem getText_back (H R l : List UInt8) : getText (H ++ txt l ++ R) (H.length : Int) = (l, ((H ++ txt l).length : Int), 0) := by
  unfold getText
  rw [if_neg (by omega), Int.toNat_natCast]
  unfold getTextN
  rw [if_neg (by simp), List.append_assoc, List.drop_left, scan_back]
  simp
theorem getText_cut (H l : List UInt8) (j : Nat) (hj : j < (txt l).length) : getText ((H ++ txt l).take (H.length + j)) (H.length : Int) = ([], 0, 8) := by
  unfold getText
  rw [if_neg (by omega), Int.toNat_natCast]
  unfold getTextN
  rw [if_neg (by simp)]
  have e : ((H ++ txt l).take (H.length + j)).drop H.length = (txt l).take j := by
    rw [List.take_append, List.take_of_length_le (by omega), List.drop_left]; congr 1; omega
  rw [e, scan_cut _ _ _ _ hj]
end Go.Proofs.Ytfagnbofnaoncaa
