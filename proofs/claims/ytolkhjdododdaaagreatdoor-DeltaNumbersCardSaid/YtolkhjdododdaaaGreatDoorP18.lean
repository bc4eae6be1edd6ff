/- Which columns a view has: slices.Index, Contains at names, picker.not, slices.IndexFunc over columns. -/
import Derived.Test.YtolkhjdododdaaaGreatDoorP7
import Derived.Test.YtolkhjdododdaaaGreatDoorP8
import Derived.Test.YtolkhjdododdaaaGreatDoorP4
import Derived.Test.YtolkhjdododdaaaGreatDoorP2
import Derived.Laws.OwnMore
import Derived.Deep.MidRow
import Derived.Test.YtolkhjdododdaaaGreatDoorP15
import Derived.Test.YtolkhjdododdaaaGreatDoorP16
import Derived.Lib.SliceRun
set_option linter.unusedSimpArgs false
set_option linter.unusedVariables false
namespace Go.Proofs.YtolkhjdododdaaaGreatDoor
open Go Go.RowKit
attribute [local go_sem] yields yUpon

def StrsIn (w : World) (v : Value) (l : List ByteArray) : Prop := SliceIn w v l.length (l.map Value.string)
theorem StrsIn.ext {w w' : World} (hE : Ext w w') {v : Value} {l : List ByteArray} (h : StrsIn w v l) : StrsIn w' v l := SliceIn.ext hE h
theorem StrsIn.get {w : World} {v : Value} {l : List ByteArray} (h : StrsIn w v l) : ∃ a c, v = .slice a l.length c ∧ l.length ≤ c ∧ c ≤ 9223372036854775807 ∧ ∀ k (hk : k < l.length), ∃ b o, a = some ⟨b, o, none⟩ ∧ w.cell? ⟨b, o + k, none⟩ = some (.string l[k]) := by
 obtain ⟨a, c, rfl, hc, hcm, ha, hcell⟩ := h
 unfold maxLen at hcm
 exact ⟨a, c, rfl, hc, by omega, fun k hk => hcell k _ (by simp [hk])⟩
def hasS (l : List ByteArray) (x : ByteArray) : Bool := l.any fun s => x.toList == s.toList

set_option maxRecDepth 100000 in
set_option maxHeartbeats 1000000 in
theorem index_any (v : Value) (l : List ByteArray) (x : ByteArray) (w : World) (hin : StrsIn w v l) :
  Calls Tryz.prog 126 #[v, .string x] w fun e w' => ∃ i : Int, e = .returned (.int .i64 i) ∧ w = w' ∧ decide (0 ≤ i) = hasS l x := by
 obtain ⟨a, c, rfl, hc, hcm, hcell⟩ := hin.get
 have HC := Lib.hid hcell
 clear hcell hin
 go_enter Tryz.func126, Tryz.ntmps126
 go_wp2
 go_loop [8] (fun i => ∃ k : Nat, k ≤ l.length ∧ i = .int .i64 k ∧ Hid (hasS l x = hasS (l.drop k) x)) (fun i => l.length - (intOf i).toNat)
 case atStart => exact ⟨0, Nat.zero_le _, rfl, rfl⟩
 case round =>
  obtain ⟨k, hk, rfl, HX⟩ := hrel
  by_cases hlt : k < l.length
  ·obtain ⟨b, o, rfl, hco⟩ := HC.out k hlt
   have hD : hasS (l.drop k) x = ((x.toList == l[k].toList) || hasS (l.drop (k + 1)) x) := by
    unfold hasS; rw [List.drop_eq_getElem_cons hlt]; rfl
   have HD := Lib.hid (HX.out.trans hD)
   clear hD HX
   cases hq : (x.toList == l[k].toList)
   ·go_wp2_with fail
    go_round
    case rel => exact ⟨k + 1, by omega, by go_num, HD.out.trans (by rw [hq]; rfl)⟩
    case measure => simp [intOf] <;> omega
   ·go_wp2_with fail
    go_ret
    exact ⟨_, rfl, rfl, (decide_eq_true (by omega)).trans (HD.out.trans (by rw [hq]; rfl)).symm⟩
  ·go_wp2_with fail
   go_ret
   exact ⟨_, rfl, rfl, by rw [HX.out, List.drop_eq_nil_of_le (by omega)]; rfl⟩

set_option maxHeartbeats 1000000 in
theorem contains_any (v : Value) (l : List ByteArray) (x : ByteArray) (w : World) (hin : StrsIn w v l) :
  Calls Tryz.prog 119 #[v, .string x] w fun e w' => e = .returned (.bool (hasS l x)) ∧ w = w' := by
 obtain ⟨a, c, rfl, hc, hcm, _⟩ := hin.get
 go_enter Tryz.func119, Tryz.ntmps119
 go_wp2_with fail
 refine (index_any _ l x _ hin).mono ?_
 rintro e w1 ⟨i, rfl, rfl, hi⟩
 cases hb : hasS l x
 all_goals
  rw [hb] at hi
  have HB := Lib.hid hb
  clear hb
  go_wp2
  go_ret
  exact ⟨ret_bool HB.out.symm, rfl⟩

set_option maxHeartbeats 1000000 in
theorem not_any (v : Value) (l : List ByteArray) (c : Co) (w : World) (hin : StrsIn w v l) :
  Calls Tryz.prog 109 #[v, .agg #[.string c.name, .string c.cell.val, .bool c.cell.dead, .int .i64 c.cell.at_, .int .i64 c.cell.fin]] w fun e w' => e = .returned (.bool (!hasS l c.name)) ∧ Ext w w' := by
 obtain ⟨a, cp, rfl, hc, hcm, _⟩ := hin.get
 go_enter Tryz.func109, Tryz.ntmps109
 go_wp2_with fail
 refine (contains_any _ l c.name _ (hin.ext ((Ext.refl w).alloc _))).mono ?_
 rintro e w1 ⟨rfl, rfl⟩
 cases hb : hasS l c.name
 all_goals
  have HB := Lib.hid hb
  clear hb
  go_wp2
  go_ret
  exact ⟨ret_bool (by rw [HB.out]; rfl), (Ext.refl w).alloc _⟩

/-- A view's predicate, as it is handed on: struck is what is none of the names. -/
def strikes (l : List ByteArray) (c : Co) : Bool := !hasS l c.name
set_option maxRecDepth 100000 in
set_option maxHeartbeats 2000000 in
theorem indexFunc_any (v : Value) (l : List Co) (nv : Value) (ns : List ByteArray) (w : World) (hin : ColsIn w v l) (hns : StrsIn w nv ns) :
  Calls Tryz.prog 120 #[v, .func (.func 109) #[nv] #[]] w fun e w' => ∃ i : Int, e = .returned (.int .i64 i) ∧ Ext w w' ∧ ((i = -1 ∧ l.all (fun c => !strikes ns c) = true) ∨ ∃ k : Nat, i = k ∧ ∃ hk : k < l.length, strikes ns l[k] = true ∧ (l.take k).all (fun c => !strikes ns c) = true) := by
 obtain ⟨a, c, rfl, hc, hcm, hcell⟩ := hin.get
 have HC := Lib.hid hcell
 clear hcell hin
 go_enter Tryz.func120, Tryz.ntmps120
 go_wp2
 go_loopw [8] (fun i wr => ∃ k : Nat, k ≤ l.length ∧ i = .int .i64 k ∧ Ext w wr ∧ Hid ((l.take k).all (fun c => !strikes ns c) = true)) (fun i _ => l.length - (intOf i).toNat)
 case atStart => exact ⟨0, Nat.zero_le _, rfl, Ext.refl w, rfl⟩
 case round =>
  obtain ⟨k, hk, rfl, hE, HX⟩ := hrel
  by_cases hlt : k < l.length
  ·obtain ⟨b, o, rfl, hco⟩ := HC.out k hlt
   obtain ⟨M, hM⟩ : ∃ M, M = l[k] := ⟨_, rfl⟩
   rw [← hM] at hco
   have hT : (l.take (k + 1)).all (fun c => !strikes ns c) = ((l.take k).all (fun c => !strikes ns c) && !strikes ns M) := by
    rw [List.take_succ_eq_append_getElem hlt, List.all_append, hM]; simp
   have HT := Lib.hid hT
   have HM := Lib.hid hM
   clear hT hM
   replace hco := hco.ext hE
   obtain ⟨g0, g1, g2, g3, g4⟩ := hco
   go_wp2_with fail
   refine (not_any nv ns M _ (hns.ext hE)).mono ?_
   rintro e w1 ⟨rfl, hE1⟩
   cases hb : hasS ns M.name
   all_goals
    have HB := Lib.hid hb
    clear hb g0 g1 g2 g3 g4
    go_wp2_with fail
   ·go_ret
    exact ⟨_, rfl, hE.trans hE1, .inr ⟨k, rfl, hlt, by rw [← HM.out]; unfold strikes; rw [HB.out]; rfl, HX.out⟩⟩
   ·go_roundw
    case rel => exact ⟨k + 1, by omega, by go_num, hE.trans hE1, HT.out.trans (by rw [HX.out]; unfold strikes; rw [HB.out]; rfl)⟩
    case measure => simp [intOf] <;> omega
  ·obtain rfl : k = l.length := by omega
   go_wp2_with fail
   go_ret
   exact ⟨_, rfl, hE, .inl ⟨rfl, by have := HX.out; rw [List.take_length] at this; exact this⟩⟩
end Go.Proofs.YtolkhjdododdaaaGreatDoor

/- slices.DeleteFunc over columns of one's own. -/
namespace Go.Proofs.YtolkhjdododdaaaGreatDoor
open Go Go.RowKit
attribute [local go_sem] yields yUpon

theorem coCells_set (c : Co) : ∀ (l : List Co) (i : Nat), i < l.length → coCells (l.set i c) = (((((coCells l).set (i * 5) (.string c.name)).set (i * 5 + 1) (.string c.cell.val)).set (i * 5 + 2) (.bool c.cell.dead)).set (i * 5 + 3) (.int .i64 c.cell.at_)).set (i * 5 + 4) (.int .i64 c.cell.fin)
 | d :: l, 0, _ => by simp [coCells]
 | d :: l, i + 1, h => by
  have ih := coCells_set c l i (by simpa using h)
  have e : (i + 1) * 5 = i * 5 + 5 := by omega
  simp only [e, List.set_cons_succ, coCells, ih]
theorem own_cut {w : World} {B : Nat} {e : TypeId} {size : Nat} {g n cap : Nat} {X : List Value} (h : w.ownsRow B e size (.slice (some ⟨g, 0, none⟩) n cap) n X) {i : Nat} (hi : i ≤ n) : w.ownsRow B e size (.slice (some ⟨g, 0, none⟩) i cap) i (X.take (i * size)) := by
 rcases h.2 with ⟨h', _⟩ | ⟨g', cap', cur, h', hb, hg, hnc, hcm, hcs, htake⟩
 ·cases h'
 ·cases h'
  refine ⟨?_, .inr ⟨_, _, cur, rfl, hb, hg, Nat.le_trans hi hnc, hcm, hcs, ?_⟩⟩
  ·rw [List.length_take, h.1, Nat.min_eq_left (Nat.mul_le_mul_right _ hi)]
  ·rw [← htake, List.take_take, Nat.min_eq_left (Nat.mul_le_mul_right _ hi)]
theorem setCells_own {B : Nat} {e : TypeId} {size g n cap : Nat} : ∀ (vs : List Value) (o : Nat) (w : World) (X : List Value), w.ownsRow B e size (.slice (some ⟨g, 0, none⟩) n cap) n X →
  ∃ X', (w.setCells g o vs).ownsRow B e size (.slice (some ⟨g, 0, none⟩) n cap) n X' ∧ X'.take o = X.take o ∧ w.grownBy (w.setCells g o vs) (some g)
 | [], o, w, X, h => ⟨X, h, rfl, grownBy_refl w _⟩
 | u :: vs, o, w, X, h => by
  obtain ⟨h1, h2⟩ := h.stored o u
  obtain ⟨X', h3, h4, h5⟩ := setCells_own vs (o + 1) _ _ h1
  refine ⟨X', h3, ?_, grownBy_trans h2 h5⟩
  have := congrArg (List.take o) h4
  rw [List.take_take, List.take_take, Nat.min_eq_left (Nat.le_succ o)] at this
  rw [this, List.take_set_of_le (Nat.le_refl o)]
theorem zero_Col (w : World) : (zeroValue 69).run Tryz.prog w = .ok (.agg #[.string ⟨#[]⟩, .string ⟨#[]⟩, .bool false, .int .i64 0, .int .i64 0]) w := Tryz.zeroValue69 w
/-- 'clear' on some of a row of one's own. -/
theorem run_clear_own {B g n cap : Nat} {w : World} {X : List Value} (h : w.ownsRow B 69 5 (.slice (some ⟨g, 0, none⟩) n cap) n X) (o m c : Nat) (ty : TypeId) (hm : 0 < m) (hom : o + m * 5 ≤ n * 5) :
  ∃ w' X', (Builtin.clear_ #[45] ty #[.slice (some ⟨g, o, none⟩) m c]).run Tryz.prog w = .ok (.tuple #[]) w' ∧ w'.ownsRow B 69 5 (.slice (some ⟨g, 0, none⟩) n cap) n X' ∧ X'.take o = X.take o ∧ w.grownBy w' (some g) := by
 obtain ⟨zs, hz⟩ : ∃ zs, zs = (Builtin.zeroCells (Value.agg #[.string ⟨#[]⟩, .string ⟨#[]⟩, .bool false, .int .i64 0, .int .i64 0]).cells m).toList := ⟨_, rfl⟩
 have hzl : zs.length = m * 5 := by rw [hz]; simp [Builtin.zeroCells, Value.cells]
 have hz1 : ∀ v ∈ zs, v.oneCell' = true := by
  intro v hv
  rw [hz] at hv
  simp only [Builtin.zeroCells, Array.toList_map, List.mem_map] at hv
  obtain ⟨i, _, rfl⟩ := hv
  have : i % 5 < 5 := Nat.mod_lt _ (by decide)
  simp only [Value.cells]
  obtain h | h | h | h | h : i % 5 = 0 ∨ i % 5 = 1 ∨ i % 5 = 2 ∨ i % 5 = 3 ∨ i % 5 = 4 := by omega
  all_goals simp [h, Value.oneCell']
 obtain ⟨X', h1, h2, h3⟩ := setCells_own zs o w X h
 have hg : ∃ cur : Array Value, w.heap[g]? = some (.cells cur 69 (0, 0)) ∧ n * 5 ≤ cur.size := by
  rcases h.2 with ⟨h', _⟩ | ⟨g', cap', cur, h', hb, hg, hnc, hcm, hcs, htake⟩
  ·cases h'
  ·cases h'
   exact ⟨cur, hg, by omega⟩
 obtain ⟨cur, hgc, hsz⟩ := hg
 have hst := run_storeCells_cells (P := Tryz.prog) g o zs 0 w (fun j hj => by rw [var_cell hgc]; simp; omega) (fun j hj => var_free hgc _) hz1
 simp only [Nat.add_zero] at hst
 refine ⟨_, X', ?_, h1, h2, h3⟩
 obtain ⟨k, rfl⟩ : ∃ k, m = k + 1 := ⟨m - 1, by omega⟩
 simp [Builtin.clear_, run_underlying und_Cols, zero_Col, ← hz, hst]

theorem own_put {B g n cap : Nat} {w : World} {X : List Co} (h : w.ownsRow B 69 5 (.slice (some ⟨g, 0, none⟩) n cap) n (coCells X)) (i : Nat) (hi : i < X.length) (M : Co) :
  (w.setCells g (i * 5) (co5 M).toList).ownsRow B 69 5 (.slice (some ⟨g, 0, none⟩) n cap) n (coCells (X.set i M)) ∧ w.grownBy (w.setCells g (i * 5) (co5 M).toList) (some g) := by
 rw [coCells_set M X i hi]
 obtain ⟨h1, g1⟩ := h.stored (i * 5) (.string M.name)
 obtain ⟨h2, g2⟩ := h1.stored (i * 5 + 1) (.string M.cell.val)
 obtain ⟨h3, g3⟩ := h2.stored (i * 5 + 2) (.bool M.cell.dead)
 obtain ⟨h4, g4⟩ := h3.stored (i * 5 + 3) (.int .i64 M.cell.at_)
 obtain ⟨h5, g5⟩ := h4.stored (i * 5 + 4) (.int .i64 M.cell.fin)
 exact ⟨h5, grownBy_trans g1 (grownBy_trans g2 (grownBy_trans g3 (grownBy_trans g4 g5)))⟩
theorem own_there {B g n cap : Nat} {w : World} {X : List Value} (h : w.ownsRow B 69 5 (.slice (some ⟨g, 0, none⟩) n cap) n X) (o m : Nat) (hm : o + m ≤ n * 5) : w.there g o m := by
 rcases h.2 with ⟨h', _⟩ | ⟨g', cap', cur, h', hb, hg, hnc, hcm, hcs, htake⟩
 ·cases h'
 ·cases h'
  exact fun j hj => ⟨by rw [var_cell hg]; simp; omega, var_free hg _⟩

def keeps (ns : List ByteArray) (c : Co) : Bool := !strikes ns c
theorem keep_start {ns : List ByteArray} {l : List Co} {k : Nat} (hk : k < l.length) (hs : strikes ns l[k] = true) (hp : (l.take k).all (fun c => !strikes ns c) = true) : l.take k = (l.take (k + 1)).filter (keeps ns) := by
 rw [List.take_succ_eq_append_getElem hk, List.filter_append]
 have h1 : (l.take k).filter (keeps ns) = l.take k := List.filter_eq_self.2 fun c hc => (List.all_eq_true.1 hp) c hc
 have h2 : [l[k]].filter (keeps ns) = [] := by simp [keeps, hs]
 rw [h1, h2, List.append_nil]
theorem keep_next {ns : List ByteArray} {l : List Co} {j : Nat} {M : Co} {R : List Co} (hd : l.drop j = M :: R) : (l.take (j + 1)).filter (keeps ns) = (l.take j).filter (keeps ns) ++ if strikes ns M = true then [] else [M] := by
 have hk : j < l.length := by
  rcases Nat.lt_or_ge j l.length with h | h
  ·exact h
  ·rw [List.drop_eq_nil_of_le h] at hd; cases hd
 have e : l[j] = M := by rw [List.drop_eq_getElem_cons hk] at hd; exact (List.cons.inj hd).1
 rw [List.take_succ_eq_append_getElem hk, e, List.filter_append]
 congr 1
 cases h : strikes ns M <;> simp [keeps, h]

set_option maxRecDepth 100000 in
set_option maxHeartbeats 4000000 in
theorem deleteFunc_any (v : Value) (l : List Co) (nv : Value) (ns : List ByteArray) (B : Nat) (w : World) (hB : B ≤ w.heap.size) (hlen : l.length ≤ 1000000) (hown : w.ownsRow B 69 5 v l.length (coCells l)) (hns : ∀ w', w.grownBy w' v.ownBlock → StrsIn w' nv ns) :
  Calls Tryz.prog 110 #[v, .func (.func 109) #[nv] #[]] w fun e w' => ∃ v', e = .returned v' ∧ w'.ownsRow B 69 5 v' (l.filter (keeps ns)).length (coCells (l.filter (keeps ns))) ∧ w.grownBy w' v.ownBlock := by
 have hcols := cols_own hown
 go_enter Tryz.func110, Tryz.ntmps110
 go_wp2_with fail
 refine (indexFunc_any v l nv ns _ hcols (hns w (grownBy_refl w _))).mono ?_
 rintro e w1 ⟨i, rfl, hE1, hcase⟩
 clear hcols
 rcases hcase with ⟨rfl, hall⟩ | ⟨k, rfl, hk, hs, hpre⟩
 ·have hf : l.filter (keeps ns) = l := List.filter_eq_self.2 fun c hc => (List.all_eq_true.1 hall) c hc
  have HF := Lib.hid hf
  clear hall hf
  go_wp2_with fail
  go_ret
  exact ⟨_, rfl, by rw [HF.out]; exact ownsRow_ext hown hE1, grownBy_ext (grownBy_refl w _) hE1⟩
 ·obtain ⟨g, cap, rfl, hcap, hcm⟩ : ∃ g cap, v = .slice (some ⟨g, 0, none⟩) l.length cap ∧ l.length ≤ cap ∧ cap ≤ 9223372036854775807 := by
   rcases hown.2 with ⟨_, h0⟩ | ⟨g, cap, cur, h', hb, hg, hnc, hcm, hcs, htake⟩
   ·omega
   ·unfold maxLen at hcm
    exact ⟨g, cap, h', hnc, by omega⟩
  have hw1 : w.grownBy w1 (some g) := grownBy_ext (grownBy_refl w _) hE1
  have hown1 := ownsRow_ext hown hE1
  have HS := Lib.hid (keep_start hk hs hpre)
  have hk1 : ((k : Int) == -1) = false := by simp only [beq_eq_false_iff_ne]; omega
  have hwk : IntKind.i64.wrap ((k : Int) + 1) = (k : Int) + 1 := by rw [IntKind.wrap_i64]; omega
  clear hs hpre hown hE1
  go_wp2_with fail
  go_loopw [5, 6] (fun si sj wr => ∃ (i j : Nat) (X : List Co), i < j ∧ j ≤ l.length ∧ si = .int .i64 i ∧ sj = .int .i64 j ∧ X.length = l.length ∧ wr.ownsRow B 69 5 (.slice (some ⟨g, 0, none⟩) l.length cap) l.length (coCells X) ∧ w.grownBy wr (some g) ∧ Hid (X.take i = (l.take j).filter (keeps ns)) ∧ Hid (X.drop j = l.drop j)) (fun _ sj _ => l.length - (intOf sj).toNat)
  case atStart => exact ⟨k, k + 1, l, by omega, hk, rfl, by go_num, rfl, hown1, hw1, HS, rfl⟩
  case round =>
   clear hown1 hw1
   obtain ⟨i, j, X, hij, hj, rfl, rfl, hXl, hownX, hgr, HT, HD⟩ := hrel
   by_cases hlt : j < l.length
   ·have hcX := cols_own (l := X) (by rw [hXl]; exact hownX)
    obtain ⟨a', c', e', _, _, hcell⟩ := hcX.get
    obtain ⟨b, o, e2, hco⟩ := hcell j (by omega)
    obtain ⟨rfl, rfl⟩ : b = g ∧ o = 0 := by rw [e2] at e'; injection e' with h1 h2 h3; injection h1 with h4; injection h4 with h5 h6 h7; exact ⟨h5.symm, h6.symm⟩
    clear e' e2 hcell hcX
    obtain ⟨M, hM⟩ : ∃ M, M = X[j]'(by omega) := ⟨_, rfl⟩
    rw [← hM] at hco
    have hMl : l.drop j = M :: l.drop (j + 1) := by
     have h1 := HD.out
     rw [List.drop_eq_getElem_cons (show j < X.length by omega), ← hM, List.drop_eq_getElem_cons hlt] at h1
     rw [List.drop_eq_getElem_cons hlt, (List.cons.inj h1).1]
    have hKN := Lib.hid (keep_next (ns := ns) hMl)
    clear hM hMl
    obtain ⟨g0, g1, g2, g3, g4⟩ := hco
    rw [Nat.zero_add] at g0 g1 g2 g3 g4
    have hj1 : IntKind.i64.wrap ((j : Int) + 1) = (j : Int) + 1 := by rw [IntKind.wrap_i64]; omega
    have hi1 : IntKind.i64.wrap ((i : Int) + 1) = (i : Int) + 1 := by rw [IntKind.wrap_i64]; omega
    have hil : i < l.length := by omega
    go_wp2_with fail
    refine (not_any nv ns M _ ((hns wr hgr).ext ((Ext.refl _).alloc _))).mono ?_
    rintro e w3 ⟨rfl, hE3⟩
    have hbox3 := (BoxAt.made wr (co5 M) 69).ext hE3
    have hown3 := ownsRow_ext (ownsRow_ext hownX ((Ext.refl _).alloc _)) hE3
    have hgr3 := grownBy_ext (grownBy_ext hgr ((Ext.refl wr).alloc (.cells (co5 M) 69))) hE3
    clear g0 g1 g2 g3 g4 hE3 hownX hgr
    obtain ⟨x0, x1, x2, x3, x4⟩ := hbox3.co
    cases hb : hasS ns M.name
    ·have HB := Lib.hid hb
     clear hb
     go_wp2_with fail
     go_roundw
     case rel =>
      refine ⟨i, j + 1, X, by omega, by omega, rfl, by go_num, hXl, hown3, hgr3, ?_, ?_⟩
      ·show X.take i = _
       rw [hKN.out, HT.out, if_pos (by unfold strikes; rw [HB.out]; rfl), List.append_nil]
      ·show X.drop (j + 1) = _
       rw [← List.drop_drop, ← List.drop_drop, HD.out]
     case measure => simp [intOf] <;> omega
    ·have HB := Lib.hid hb
     clear hb
     go_wp2_with ((guard_target =~ wpList _ _ _ (Oper.mk none (Op.store _ (Operand.tmp 33) _) _ _ _ _ :: _) _ _); go_must (refine wpList_store_mid rfl 69 (.tmp 33) (.tmp 32) rfl b (i * 5) (co5 M) (by rfl) (by rfl) (own_there hown3 (i * 5) 5 (by omega)) (by kernel_rfl) (by simp [co5, Value.oneCell']) ?_))
     go_roundw
     case rel =>
      obtain ⟨ho, hg⟩ := own_put hown3 i (by omega) M
      refine ⟨i + 1, j + 1, X.set i M, by omega, by omega, by go_num, by go_num, by simpa using hXl, ho, grownBy_trans hgr3 hg, ?_, ?_⟩
      ·show (X.set i M).take (i + 1) = _
       rw [hKN.out, if_neg (by unfold strikes; rw [HB.out]; decide), ← HT.out, List.take_succ_eq_append_getElem (by simp; omega), List.take_set_of_le (Nat.le_refl i)]
       simp
      ·show (X.set i M).drop (j + 1) = _
       rw [List.drop_set_of_lt (by omega), ← List.drop_drop, ← List.drop_drop, HD.out]
     case measure => simp [intOf] <;> omega
   ·obtain rfl : j = l.length := by omega
    rw [List.take_length] at HT
    obtain ⟨w4, X', he, ho4, htk, hg4⟩ := run_clear_own hownX (i * 5) (l.length - i) (cap - i) 0 (by omega) (by omega)
    have HE := Lib.hid he
    have hcut := own_cut ho4 (i := i) (by omega)
    rw [htk] at hcut
    have hXi : (coCells X).take (i * 5) = coCells (X.take i) := by
     have := coCells_append (X.take i) (X.drop i)
     rw [List.take_append_drop] at this
     rw [this, List.take_left' (by rw [coCells_length, List.length_take, Nat.min_eq_left (by omega)])]
    rw [hXi, HT.out] at hcut
    have hli : (l.filter (keeps ns)).length = i := by rw [← HT.out, List.length_take]; omega
    have HL := Lib.hid hli
    clear he ho4 htk hXi hli hownX
    have hil : i ≤ l.length := by omega
    go_wp2_with fail
    rw [HE.out]
    simp only [Result.andThen]
    rw [Oper.upon_value]
    go_wp2_with fail
    go_ret
    exact ⟨_, rfl, by rw [HL.out]; exact hcut, grownBy_trans hgr hg4⟩
end Go.Proofs.YtolkhjdododdaaaGreatDoor

/- project.pick, project.of where a row is in the view. -/
namespace Go.Proofs.YtolkhjdododdaaaGreatDoor
open Go Go.RowKit
attribute [local go_sem] yields yUpon ro8 pa3 vw5 cl4

set_option maxRecDepth 100000 in
set_option maxHeartbeats 2000000 in
theorem pick_any (x : Vw) (u : Value) (ns : List ByteArray) (v : Value) (l : List Co) (w : World) (hin : ColsIn w v l) (hlen : l.length ≤ 1000000) (hns : StrsIn w u ns) :
  Calls Tryz.prog 96 #[.agg #[.string x.name, .int .i64 x.id, .string x.table, .string x.on, u], v] w fun e w' => ∃ v', e = .returned v' ∧ w'.ownsRow w.heap.size 69 5 v' (l.filter (keeps ns)).length (coCells (l.filter (keeps ns))) ∧ Ext w w' := by
 have hin1 := hin.ext ((Ext.refl w).alloc (.cells (vw5 x u) 31))
 have hX1 := (Ext.refl w).alloc (.cells (vw5 x u) 31)
 go_enter Tryz.func96, Tryz.ntmps96
 go_wp2_with (at_builtin; go_must (refine appCols (w.alloc (.cells (vw5 x u) 31)) rfl (.const (.slice none 0 0)) (.tmp 9) rfl w.heap.size hX1.le _ [] (World.ownsRow_nil _ _ _ _) (by rfl) _ l hin1 (by rfl) (by simp; omega) ?_); intro v3 w3 hown3 hg3)
 have hX3 : Ext w w3 := hX1.grown hg3 (fun q hq => by cases hq)
 rw [List.nil_append] at hown3
 refine (deleteFunc_any v3 l u ns w.heap.size w3 hX3.le hlen hown3 (fun w' hg => hns.ext (hX3.grown hg (fun q hq => (hown3.lt q hq).1)))).mono ?_
 rintro e w4 ⟨v', rfl, hown4, hg4⟩
 go_wp2
 go_ret
 exact ⟨_, rfl, hown4, hX3.grown hg4 (fun q hq => (hown3.lt q hq).1)⟩

/-- What stays true in the last region of project.of. -/
structure OC (w w1 w2 : World) (x : Vw) (u : Value) (c : Cl) (q : Nat) (y : World) : Prop where
 view : BoxAt y w.heap.size (vw5 x u) 31
 cell : BoxAt y w1.heap.size (cl4 c) 44
 res : ∃ k g r, BoxAt y q (pa3 k g r) 39
 grown : w2.grownBy y (some q)
theorem OC.ext {w w1 w2 : World} {x : Vw} {u : Value} {c : Cl} {q : Nat} {y z : World} (hE : Ext y z) (h : OC w w1 w2 x u c q y) : OC w w1 w2 x u c q z :=
 ⟨h.view.ext hE, h.cell.ext hE, let ⟨k, g, r, hb⟩ := h.res; ⟨k, g, r, hb.ext hE⟩, grownBy_ext h.grown hE⟩
def OE (q : Nat) (j : Nat) (x y : World) : Prop := if j = 14 then x.grownBy y (some q) else Ext x y
theorem OE_ext {q j : Nat} {x y : World} (hj : j ≠ 14) (h : Ext x y) : OE q j x y := by unfold OE; rw [if_neg hj]; exact h
theorem OE_grown {q j : Nat} {x y : World} (h : OE q j x y) : x.grownBy y (some q) := by
 unfold OE at h
 split at h
 ·exact h
 ·exact grownBy_ext (grownBy_refl x _) h

theorem OE_own {x y : World} {q B : Nat} (hq : q < B) (h : x.grownBy y (some q)) {v : Value} {m : Nat} {xs : List Value} (hx : x.ownsRow B 69 5 v m xs) : y.ownsRow B 69 5 v m xs := by
 refine hx.kept h ?_
 cases e : v.ownBlock with
 | none => exact .inl rfl
 | some g => exact .inr (fun h => by have := (hx.lt g e).1; have := Option.some.inj h; omega)
set_option maxRecDepth 100000 in
set_option maxHeartbeats 8000000 in
theorem of_some (x : Vw) (u : Value) (ns : List ByteArray) (pk : ByteArray) (pg : Int) (pu : Value) (r : Ro) (v cv : Value) (lc : List Co) (w : World) (hin : ColsIn w v r.cols) (hcv : ColsIn w cv lc) (hlc : lc.length ≤ 1000000) (hns : StrsIn w u ns)
  (hb : bestB (cellOf r.cols x.on) (max r.gone pg) = true) (hk : pk.size ≤ 10000000) (hr : r.key.size ≤ 10000000) (hkl : (vkey pk r.key).size ≤ 400) :
  Calls Tryz.prog 73 #[.agg #[.string x.name, .int .i64 x.id, .string x.table, .string x.on, u], .agg #[.string pk, .int .i64 pg, pu], (.agg #[.string r.key, .string r.live.val, .bool r.live.dead, .int .i64 r.live.at_, .int .i64 r.live.fin, .int .i64 r.gone, .int .i64 r.shade, v]), cv] w fun e w' =>
   ∃ (b : Nat) (v' : Value), e = .returned (.tuple #[.agg #[.string (cellOf r.cols x.on).val, .int .i64 0, .slice (some ⟨b, 0, none⟩) 1 1], .bool true]) ∧ w.heap.size ≤ b ∧
    BoxAt w' b (ro8 ⟨vkey pk r.key, ⟨⟨#[]⟩, false, (cellOf r.cols x.on).at_, (cellOf r.cols x.on).fin⟩, 0, 0, lc.filter (keeps ns)⟩ v') 47 ∧ w'.ownsRow w.heap.size 69 5 v' (lc.filter (keeps ns)).length (coCells (lc.filter (keeps ns))) ∧ Ext w w' := by
 obtain ⟨c, hc⟩ : ∃ c, c = cellOf r.cols x.on := ⟨_, rfl⟩
 rw [← hc] at hb ⊢
 have hbc : bestC c (max r.gone pg) = c := by unfold bestC; rw [if_pos hb]
 obtain ⟨L, hL⟩ : ∃ L, L = lc.filter (keeps ns) := ⟨_, rfl⟩
 rw [← hL]
 obtain ⟨key, hkey⟩ : ∃ key, key = vkey pk r.key := ⟨_, rfl⟩
 rw [← hkey] at hkl ⊢
 have HB := Lib.hid hb
 have HC := Lib.hid hbc
 have Hc := Lib.hid hc
 have HL := Lib.hid hL
 have HK := Lib.hid hkey
 have k4 : decide ((400 : Int) < (key.size : Int)) = false := by simp; omega
 clear hb hbc hc hL hkey hkl
 obtain ⟨a0, a1, a2, a3, hE⟩ := boxes4 w (vw5 x u) (pa3 pk pg pu) (ro8 r v) (pa3 ⟨#[]⟩ 0 (.slice none 0 0)) 31 39 47 39
 have hin' := hin.ext hE
 go_enter Tryz.func73, Tryz.ntmps73
 go_wp2_with fail
 refine (best_any r v pg x.on _ hin').mono ?_
 rw [← Hc.out, HB.out, HC.out]
 rintro e w1 ⟨rfl, hE1⟩
 replace a0 := a0.ext hE1
 replace a1 := a1.ext hE1
 replace a2 := a2.ext hE1
 replace a3 := a3.ext hE1
 replace hE := hE.trans hE1
 clear hE1 hin' hin
 have y1 := a1.allocs
 have y2 := a2.allocs
 have l3 := a3.lt
 go_wp2_with fail
 refine (key_any pk r.key _ hk hr).mono ?_
 rw [← HK.out]
 rintro e w2 ⟨rfl, hE2⟩
 have b0 := (a0.ext ((Ext.refl _).alloc (.cells (cl4 c) 44))).ext hE2
 have b3 := (a3.ext ((Ext.refl _).alloc (.cells (cl4 c) 44))).ext hE2
 have bc := (BoxAt.made w1 (cl4 c) 44).ext hE2
 have hX := (hE.alloc (.cells (cl4 c) 44)).trans hE2
 have lc1 := bc.lt
 have hws := hX.le
 clear y1 y2 a0 a1 a2 a3 hE hE2
 go_wp2_with fail
 have hqs : (w.heap.size + 1 + 1 + 1) < w2.heap.size := b3.lt
 refine wp_region_relE (OC w w1 w2 x u c (w.heap.size + 1 + 1 + 1)) (OE (w.heap.size + 1 + 1 + 1)) (Tab.atE [(1, fun v _ => v = .string c.val), (4, fun v _ => v = .int .i64 c.at_), (6, fun v _ => v = .int .i64 c.fin), (8, fun v _ => v = .agg (vw5 x u)), (10, fun v y => y.ownsRow w2.heap.size 69 5 v L.length (coCells L)),
   (12, fun v y => ∃ (b : Nat) (v' : Value), v = .slice (some ⟨b, 0, none⟩) 1 1 ∧ w2.heap.size ≤ b ∧ BoxAt y b (ro8 ⟨key, ⟨⟨#[]⟩, false, c.at_, c.fin⟩, 0, 0, L⟩ v') 47 ∧ y.ownsRow w2.heap.size 69 5 v' L.length (coCells L)),
   (14, fun _ y => ∃ (b : Nat) (v' : Value), BoxAt y (w.heap.size + 1 + 1 + 1) (pa3 c.val 0 (.slice (some ⟨b, 0, none⟩) 1 1)) 39 ∧ w2.heap.size ≤ b ∧ BoxAt y b (ro8 ⟨key, ⟨⟨#[]⟩, false, c.at_, c.fin⟩, 0, 0, L⟩ v') 47 ∧ y.ownsRow w2.heap.size 69 5 v' L.length (coCells L))])
  (Tab.staysE ⟨fun _ _ _ _ _ _ h => h, fun _ _ _ _ _ _ h => h, fun _ _ _ _ _ _ h => h, fun _ _ _ _ _ _ h => h, fun j _ v y z hR h => OE_own hqs (OE_grown hR) h,
   fun j _ v y z hR ⟨b, v', e, hb, h1, h2⟩ => ⟨b, v', e, hb, h1.grown (OE_grown hR) (fun e => by have := Option.some.inj e; omega), OE_own hqs (OE_grown hR) h2⟩,
   fun j hj v y z hR ⟨b, v', h0, hb, h1, h2⟩ => by
    unfold OE at hR
    rw [if_neg hj] at hR
    exact ⟨b, v', h0.ext hR, hb, h1.ext hR, ownsRow_ext h2 hR⟩, trivial⟩)
  16 (by kernel_rfl) (by kernel_rfl) (by kernel_rfl) ((⟨b0, bc, ⟨_, _, _, b3⟩, grownBy_refl w2 _⟩ : OC w w1 w2 x u c (w.heap.size + 1 + 1 + 1) w2).ext (Ext.refl w2).drew) ?_
 refine relE_quiet rfl rfl rfl rfl ?_; intro K hK; go_big_quiet_op; (first | refine ⟨_, fun _ _ => rfl, hK _ ?_⟩ | refine hK _ ?_); clear hK K
 refine relE_val [] rfl rfl rfl (by kernel_rfl) (fun z hz hf => ?_) ?_
 ·have c0 := hz.cell.cl.1
  go_simp
  exact ⟨hz, OE_ext (by decide) (Ext.refl z), rfl⟩
 simp only [Act.put, List.setIfInBounds_toArray, List.set_cons_zero, List.set_cons_succ]
 refine relE_quiet rfl rfl rfl rfl ?_; intro K hK; go_big_quiet_op; (first | refine ⟨_, fun _ _ => rfl, hK _ ?_⟩ | refine hK _ ?_); clear hK K
 refine relE_quiet rfl rfl rfl rfl ?_; intro K hK; go_big_quiet_op; (first | refine ⟨_, fun _ _ => rfl, hK _ ?_⟩ | refine hK _ ?_); clear hK K
 refine relE_val [] rfl rfl rfl (by kernel_rfl) (fun z hz hf => ?_) ?_
 ·have c0 := hz.cell.cl.2.2.1
  go_simp
  exact ⟨hz, OE_ext (by decide) (Ext.refl z), rfl⟩
 simp only [Act.put, List.setIfInBounds_toArray, List.set_cons_zero, List.set_cons_succ]
 refine relE_quiet rfl rfl rfl rfl ?_; intro K hK; go_big_quiet_op; (first | refine ⟨_, fun _ _ => rfl, hK _ ?_⟩ | refine hK _ ?_); clear hK K
 refine relE_val [] rfl rfl rfl (by kernel_rfl) (fun z hz hf => ?_) ?_
 ·have c0 := hz.cell.cl.2.2.2
  go_simp
  exact ⟨hz, OE_ext (by decide) (Ext.refl z), rfl⟩
 simp only [Act.put, List.setIfInBounds_toArray, List.set_cons_zero, List.set_cons_succ]
 refine relE_quiet rfl rfl rfl rfl ?_; intro K hK; go_big_quiet_op; (first | refine ⟨_, fun _ _ => rfl, hK _ ?_⟩ | refine hK _ ?_); clear hK K
 refine relE_val [] rfl rfl rfl (by kernel_rfl) (fun z hz hf => ?_) ?_
 ·obtain ⟨c0, c1, c2, c3, c4⟩ := hz.view.vw
  go_simp
  exact ⟨hz, OE_ext (by decide) (Ext.refl z), rfl⟩
 simp only [Act.put, List.setIfInBounds_toArray, List.set_cons_zero, List.set_cons_succ]
 refine relE_quiet rfl rfl rfl rfl ?_; intro K hK; go_big_quiet_op; (first | refine ⟨_, fun _ _ => rfl, hK _ ?_⟩ | refine hK _ ?_); clear hK K
 refine relE_fact [] rfl rfl rfl (by kernel_rfl) (fun z hz hf => ?_) (fun v10 z10 hC10 hG10 h10 => ?_)
 ·have hXz : Ext w z := hX.grown hz.grown (fun q hq => by cases hq; omega)
  go_simp
  refine (pick_any x u ns cv lc z (hcv.ext hXz) hlc (hns.ext hXz)).mono ?_
  rintro e z' ⟨v', he, hown, hEz⟩
  rw [← HL.out] at hown
  exact ⟨_, he, hz.ext hEz, OE_ext (by decide) hEz, ownsRow_base hown hz.grown.size⟩
 obtain ⟨a10, c10, rfl⟩ := own_shape h10
 clear hC10 hG10 h10
 simp only [Act.put, List.setIfInBounds_toArray, List.set_cons_zero, List.set_cons_succ]
 refine relE_quiet rfl rfl rfl rfl ?_; intro K hK; go_big_quiet_op; (first | refine ⟨_, fun _ _ => rfl, hK _ ?_⟩ | refine hK _ ?_); clear hK K
 refine relE_fact [10] rfl rfl rfl (by kernel_rfl) (fun z hz hf => ?_) (fun v12 z12 hC12 hG12 h12 => ?_)
 ·have h10 := (hf 10 (by simp)).2 rfl
  go_simp
  refine ⟨hz.ext ((Ext.refl z).alloc _), OE_ext (by decide) ((Ext.refl z).alloc _), ?_⟩
  exact ⟨z.heap.size, rfl, hz.grown.size, .slice a10 L.length c10, BoxAt.made z _ _, ownsRow_ext h10 ((Ext.refl z).alloc _)⟩
 obtain ⟨b12, v12', rfl, _, _, _⟩ := h12
 clear hC12 hG12
 simp only [Act.put, List.setIfInBounds_toArray, List.set_cons_zero, List.set_cons_succ]
 refine relE_quiet rfl rfl rfl rfl ?_; intro K hK; go_big_quiet_op; (first | refine ⟨_, fun _ _ => rfl, hK _ ?_⟩ | refine hK _ ?_); clear hK K
 refine relE_fact [12] rfl rfl rfl (by kernel_rfl) (fun z hz hf => ?_) (fun v14 z14 hC14 hG14 h14 => ?_)
 ·obtain ⟨b, v', e, hb, h1, h2⟩ := (hf 12 (by simp)).2 rfl
  cases e
  obtain ⟨k', g', r', hq'⟩ := hz.res
  refine yields_storeBox 39 (.tmp 8) (.tmp 48) rfl (w.heap.size + 1 + 1 + 1) (pa3 c.val 0 (.slice (some ⟨b12, 0, none⟩) 1 1)) _ 39 (by rfl) (by rfl) hq' (by kernel_rfl) (by rfl) (by simp [pa3, Value.oneCell']) ?_
  intro z' hz' hg'
  exact ⟨⟨hz.view.grown hg' (fun e => by have := Option.some.inj e; omega), hz.cell.grown hg' (fun e => by have := Option.some.inj e; omega), ⟨_, _, _, hz'⟩, grownBy_trans hz.grown hg'⟩, by unfold OE; rw [if_pos rfl]; exact hg', b12, v', hz', hb, h1.grown hg' (fun e => by have := Option.some.inj e; omega), OE_own hqs hg' h2⟩
 clear hC14 hG14 h14 z14
 simp only [Act.put, List.setIfInBounds_toArray, List.set_cons_zero, List.set_cons_succ]
 refine relE_quiet rfl rfl rfl rfl ?_; intro K hK; go_big_quiet_op; (first | refine ⟨_, fun _ _ => rfl, hK _ ?_⟩ | refine hK _ ?_); clear hK K
 refine relE_nil fun z hz hG => ?_
 obtain ⟨b, v', h0, hb, h1, h2⟩ := (hG 14).2 rfl
 have hXz : Ext w z := hX.grown hz.grown (fun q hq => by cases hq; omega)
 clear hG hz
 go_wp2_with fail
 have z0 := h0.cell 0
 have z1 := h0.cell 1
 have z2 := h0.cell 2
 simp [pa3] at z0 z1 z2
 refine bodyPost_ret (v := .tuple #[.agg #[.string c.val, .int .i64 0, .slice (some ⟨b, 0, none⟩) 1 1], .bool true]) ?_ rfl ⟨b, v', rfl, by omega, h1, ownsRow_base h2 hws, hXz⟩
 simp [results, Tryz.results73, go_sem, Act.put, z0, z1, z2]
end Go.Proofs.YtolkhjdododdaaaGreatDoor

/- slices.Clone of columns; delta.cellOf. -/
namespace Go.Proofs.YtolkhjdododdaaaGreatDoor
open Go Go.RowKit
attribute [local go_sem] yields yUpon ro8 pa3 vw5 cl4

/-- A row's cell of a view's column as its one column, if it has one. -/
def cellL (x : Vw) (r : Ro) : List Co := if (cellOf r.cols x.on).at_ < 1 then [] else [⟨x.on, cellOf r.cols x.on⟩]
set_option maxRecDepth 100000 in
set_option maxHeartbeats 2000000 in
theorem cellOf_any (x : Vw) (u : Value) (r : Ro) (v : Value) (w : World) (hin : ColsIn w v r.cols) :
  Calls Tryz.prog 74 #[.agg #[.string x.name, .int .i64 x.id, .string x.table, .string x.on, u], (.agg #[.string r.key, .string r.live.val, .bool r.live.dead, .int .i64 r.live.at_, .int .i64 r.live.fin, .int .i64 r.gone, .int .i64 r.shade, v])] w fun e w' => ∃ a c, e = .returned (.slice a (cellL x r).length c) ∧ ColsT w' (.slice a (cellL x r).length c) (cellL x r) ∧ Ext w w' := by
 obtain ⟨a0, a1, hE⟩ := boxes2 w (vw5 x u) (ro8 r v) 31 47
 have hin' := hin.ext hE
 obtain ⟨c, hc⟩ : ∃ c, c = cellOf r.cols x.on := ⟨_, rfl⟩
 have hL : cellL x r = if c.at_ < 1 then [] else [⟨x.on, c⟩] := by rw [hc]; rfl
 have Hc := Lib.hid hc
 have HL := Lib.hid hL
 clear hc hL
 go_enter Tryz.func74, Tryz.ntmps74
 go_wp2_with fail
 refine (rcell_any r v x.on _ hin').mono ?_
 rw [← Hc.out]
 rintro e w1 ⟨rfl, hE1⟩
 have y := (a0.ext hE1).allocs
 have hX := (hE.trans hE1).alloc (.cells (cl4 c) 44)
 clear a0 a1 hE hE1 hin hin'
 cases d : decide (c.at_ < 1)
 ·have e1 : cellL x r = [⟨x.on, c⟩] := by rw [HL.out, if_neg (by simpa using d)]
  have HE := Lib.hid e1
  clear e1
  go_wp2_with fail
  go_ret
  rw [HE.out]
  refine ⟨_, _, rfl, ?_, hX.alloc _⟩
  exact TIn.box (xs := coCells [⟨x.on, c⟩]) (BoxAt.madeN (co5 ⟨x.on, c⟩) 69 (by simp)) (by unfold maxLen; show 1 ≤ 2 ^ 63 - 1; decide)
 ·have e1 : cellL x r = [] := by rw [HL.out, if_pos (by simpa using d)]
  have HE := Lib.hid e1
  clear e1
  go_wp2_with fail
  go_ret
  rw [HE.out]
  exact ⟨_, _, rfl, ColsT.nil _, hX⟩
end Go.Proofs.YtolkhjdododdaaaGreatDoor
