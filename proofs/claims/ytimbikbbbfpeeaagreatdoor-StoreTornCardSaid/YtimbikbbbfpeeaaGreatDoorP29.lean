/- Package pack at partitions without rows: part.Check, whole, Part; clerestorylaw09.awake's first half. -/
import Derived.Test.YtimbikbbbfpeeaaGreatDoorP28
import Derived.Test.YtimbikbbbfpeeaaGreatDoorP1
import Derived.Test.YtimbikbbbfpeeaaGreatDoorP25
import Derived.Test.YtimbikbbbfpeeaaGreatDoorP9
import Derived.Test.YtimbikbbbfpeeaaGreatDoorP5
import Derived.Test.YtimbikbbbfpeeaaGreatDoorP26
set_option linter.unusedSimpArgs false
set_option linter.unusedVariables false
namespace Go.Proofs.YtimbikbbbfpeeaaGreatDoor
open Go Go.RowKit
attribute [local go_sem] yields yUpon

theorem ownB_shape {w : World} {B : Nat} {v : Value} {l : List UInt8} (h : OwnB w B v l) : ∃ a c, v = .slice a l.length c := by
  rcases h.2 with ⟨rfl, h0⟩ | ⟨g, cap, cur, rfl, _⟩
  · exact ⟨none, 0, by rw [h0]⟩
  · exact ⟨_, cap, rfl⟩
/-- May a partition without rows be? -/
def chk0 (k : ByteArray) (g : Int) : Bool := decide (k.size ≤ 100) && decide (0 ≤ g) && decide (g ≤ 1099511627776)
set_option maxHeartbeats 1000000 in
theorem check0_ok (k : ByteArray) (g : Int) (hk : k.size ≤ 100) (h0 : 0 ≤ g) (h1 : g ≤ 1099511627776) (w : World) :
    Calls Tryz.prog 72 #[.agg #[.string k, .int .i64 g, .slice none 0 0]] w fun e w' => e = .returned (.bool true) ∧ Ext w w' := by
  have t1 : ¬ (100 : Int) < (k.size : Int) := by omega
  have t2 : ¬ g < 0 := by omega
  have t3 : ¬ 1099511627776 < g := by omega
  go_enter Tryz.func72, Tryz.ntmps72
  go_wp2
  go_loopw [28] (fun i wr => i = .int .i64 0 ∧ Ext w wr) (fun _ _ => 0)
  case atStart => exact ⟨rfl, (Ext.refl w).alloc _⟩
  case round =>
    obtain ⟨rfl, hE⟩ := hrel
    go_wp2_with fail
    go_ret
    exact ⟨rfl, hE⟩
set_option maxHeartbeats 1000000 in
theorem check0_no (k : ByteArray) (g : Int) (hk : k.size ≤ 100) (h0 : g < 0) (w : World) :
    Calls Tryz.prog 72 #[.agg #[.string k, .int .i64 g, .slice none 0 0]] w fun e w' => e = .returned (.bool false) ∧ Ext w w' := by
  have t1 : ¬ (100 : Int) < (k.size : Int) := by omega
  go_enter Tryz.func72, Tryz.ntmps72
  go_wp2
  go_ret
  exact ⟨rfl, (Ext.refl w).alloc _⟩

def whole0 (k : ByteArray) (g : Nat) : List UInt8 := num k.size ++ k.data.toList ++ num g ++ num 0
set_option maxHeartbeats 2000000 in
theorem whole0_any (k : ByteArray) (g : Nat) (hk : k.size ≤ 100) (hg : g ≤ 1099511627776) (w : World) :
    Calls Tryz.prog 76 #[.agg #[.string k, .int .i64 (g : Int), .slice none 0 0]] w fun e w' => ∃ v', e = .returned v' ∧ OwnB w' w.heap.size v' (whole0 k g) ∧ Ext w w' := by
  have hE0 := (Ext.refl w).alloc (.cells #[.string k, .int .i64 (g : Int), .slice none 0 0] 52)
  have hbx := BoxAt.made w #[.string k, .int .i64 (g : Int), .slice none 0 0] 52
  have l1 := num_length (x := k.size) (by omega)
  have l2 := num_length (x := g) (by omega)
  have lk : k.data.toList.length = k.size := by rw [Array.length_toList]; rfl
  obtain ⟨B1, hB1⟩ : ∃ B, B = num k.size ++ k.data.toList := ⟨_, rfl⟩
  obtain ⟨B2, hB2⟩ : ∃ B, B = B1 ++ num g := ⟨_, rfl⟩
  obtain ⟨B3, hB3⟩ : ∃ B, B = B2 ++ num 0 := ⟨_, rfl⟩
  have m1 : B1.length ≤ 200 := by rw [hB1, List.length_append]; omega
  have m2 : B2.length ≤ 300 := by rw [hB2, List.length_append]; omega
  have HW : Hid (whole0 k g = B3) := Lib.hid (by rw [hB3, hB2, hB1]; rfl)
  have H1 := Lib.hid hB1
  have H2 := Lib.hid hB2
  have H3 := Lib.hid hB3
  rw [HW.out]
  clear hB1 hB2 hB3 l1 l2 lk
  go_enter Tryz.func76, Tryz.ntmps76
  go_wp2
  refine wp_region_tab 11 [(2, fun v x => OwnB x w.heap.size v B1), (5, fun v x => OwnB x w.heap.size v B2), (9, fun v x => OwnB x w.heap.size v B3)] (by kernel_rfl) (by kernel_rfl) (by kernel_rfl) ⟨fun _ _ _ hE h => h.ext hE, fun _ _ _ hE h => h.ext hE, fun _ _ _ hE h => h.ext hE, trivial⟩ ?_
  have c0 := held (show (w.alloc (.cells #[.string k, .int .i64 (g : Int), .slice none 0 0] 52)).cell? ⟨w.heap.size, 0, none⟩ = some (.string k) from hbx.cell 0)
  have c1 := held (show (w.alloc (.cells #[.string k, .int .i64 (g : Int), .slice none 0 0] 52)).cell? ⟨w.heap.size, 1, none⟩ = some (.int .i64 (g : Int)) from hbx.cell 1)
  have c2 := held (show (w.alloc (.cells #[.string k, .int .i64 (g : Int), .slice none 0 0] 52)).cell? ⟨w.heap.size, 2, none⟩ = some (.slice none 0 0) from hbx.cell 2)
  refine rg_quiet rfl rfl rfl rfl ?_; intro K hK; go_big_quiet_op; go_big_quiet_on
  refine rg_quiet rfl rfl rfl rfl ?_; intro K hK; go_big_quiet_op; go_big_quiet_on
  refine rg_fact [] rfl rfl rfl (by kernel_rfl) (fun y hE hf => ?_) (fun v2 y2 hE2 hG2 h2 => ?_)
  · go_simp
    refine (pk_text (.slice none 0 0) [] k (by omega) y (SliceIn.nil y) (by simp)).mono ?_
    rintro e w' ⟨v', rfl, ho, hw⟩
    exact ⟨_, rfl, rg_doneR hE hw (by rw [H1.out]; exact ho.base (hE0.trans hE).le)⟩
  obtain ⟨a2, n2, rfl⟩ := ownB_shape h2
  clear hE2 hG2 h2
  simp only [Act.put, List.setIfInBounds_toArray, List.set_cons_zero, List.set_cons_succ]
  refine rg_quiet rfl rfl rfl rfl ?_; intro K hK; go_big_quiet_op; go_big_quiet_on
  refine rg_quiet rfl rfl rfl rfl ?_; intro K hK; go_big_quiet_op; go_big_quiet_on
  refine rg_fact [2] rfl rfl rfl (by kernel_rfl) (fun y hE hf => ?_) (fun v5 y5 hE5 hG5 h5 => ?_)
  · have h2 := (hf 2 (by simp)).2 rfl
    go_simp
    refine (pk_number _ B1 (g : Int) (by omega) (by omega) y (OwnB.bytes h2) (by omega)).mono ?_
    rintro e w' ⟨v', rfl, ho, hw⟩
    exact ⟨_, rfl, rg_doneR hE hw (by rw [H2.out]; exact ho.base (hE0.trans hE).le)⟩
  obtain ⟨a5, n5, rfl⟩ := ownB_shape h5
  clear hE5 hG5 h5
  simp only [Act.put, List.setIfInBounds_toArray, List.set_cons_zero, List.set_cons_succ]
  refine rg_quiet rfl rfl rfl rfl ?_; intro K hK; go_big_quiet_op; go_big_quiet_on
  refine rg_quiet rfl rfl rfl rfl ?_; intro K hK; go_big_quiet_op; go_big_quiet_on
  refine rg_quiet rfl rfl rfl rfl ?_; intro K hK; go_big_quiet_op; go_big_quiet_on
  refine rg_fact [5] rfl rfl rfl (by kernel_rfl) (fun y hE hf => ?_) (fun v9 y9 hE9 hG9 h9 => ?_)
  · have h5 := (hf 5 (by simp)).2 rfl
    go_simp
    refine (pk_number _ B2 0 (by omega) (by omega) y (OwnB.bytes h5) (by omega)).mono ?_
    rintro e w' ⟨v', rfl, ho, hw⟩
    exact ⟨_, rfl, rg_doneR hE hw (by rw [H3.out]; exact ho.base (hE0.trans hE).le)⟩
  obtain ⟨a9, n9, rfl⟩ := ownB_shape h9
  clear hE9 hG9 h9
  simp only [Act.put, List.setIfInBounds_toArray, List.set_cons_zero, List.set_cons_succ]
  refine rg_quiet rfl rfl rfl rfl ?_; intro K hK; go_big_quiet_op; go_big_quiet_on
  refine rel_nil fun w2 hE2 hG => ?_
  have h9 := (hG 9).2 rfl
  have hb2 := hbx.ext hE2
  have hEw := hE0.trans hE2
  clear c0 c1 c2 hG
  have c2 : w2.cell? ⟨w.heap.size, 2, none⟩ = some (.slice none 0 0) := hb2.cell 2
  go_wp2_with fail
  go_loopw [3, 19] (fun b i wr => b = .slice a9 B3.length n9 ∧ i = .int .i64 0 ∧ Ext w2 wr) (fun _ _ _ => 0)
  case atStart => exact ⟨rfl, rfl, Ext.refl w2⟩
  case round =>
    obtain ⟨rfl, rfl, hE⟩ := hrel
    go_wp2_with fail
    go_ret
    exact ⟨_, rfl, OwnB.ext h9 hE, hEw.trans hE⟩

set_option maxHeartbeats 1000000 in
theorem part0_any (k : ByteArray) (hk : k.size ≤ 100) (w : World) :
    Calls Tryz.prog 136 #[.agg #[.string k, .int .i64 0, .slice none 0 0]] w fun e w' => ∃ v', e = .returned (.tuple #[v', .int .i64 0]) ∧ OwnB w' w.heap.size v' (whole0 k 0) ∧ Ext w w' := by
  have hE0 := (Ext.refl w).alloc (.cells #[.string k, .int .i64 0, .slice none 0 0] 52)
  have hbx := BoxAt.made w #[.string k, .int .i64 0, .slice none 0 0] 52
  have l1 := num_length (x := k.size) (by omega)
  have l2 := num_length (x := 0) (by omega)
  have lk : k.data.toList.length = k.size := by rw [Array.length_toList]; rfl
  obtain ⟨L, hL⟩ : ∃ L, L = whole0 k 0 := ⟨_, rfl⟩
  have hLl : L.length ≤ 200 := by rw [hL]; unfold whole0; simp only [List.length_append]; omega
  have HL := Lib.hid hL
  rw [← hL]
  clear hL l1 l2 lk
  go_enter Tryz.func136, Tryz.ntmps136
  go_wp2_with (first
    | (go_at_call 72; go_must (refine (check0_ok k 0 hk (by omega) (by omega) _).mono ?_); rintro e w1 ⟨rfl, hE1⟩; have hb1 := hbx.ext hE1; have c0 : w1.cell? ⟨w.heap.size, 0, none⟩ = some (.string k) := hb1.cell 0; have c1 : w1.cell? ⟨w.heap.size, 1, none⟩ = some (.int .i64 0) := hb1.cell 1; have c2 : w1.cell? ⟨w.heap.size, 2, none⟩ = some (.slice none 0 0) := hb1.cell 2)
    | (go_at_call 76; go_must (refine (whole0_any k 0 hk (by omega) _).mono ?_); rintro e w2 ⟨v2, rfl, ho2, hE2⟩; rw [← HL.out] at ho2; have ho2' := ho2; obtain ⟨a2, n2, rfl⟩ := ownB_shape ho2'))
  go_ret2
  exact ⟨_, rfl, OwnB.base ho2 (hE0.trans hE1).le, (hE0.trans hE1).trans hE2⟩
end Go.Proofs.YtimbikbbbfpeeaaGreatDoor

/- pack.CheckBatch of batches whose partitions have no rows. (what a smaller cut has) -/
namespace Go.Proofs.YtimbikbbbfpeeaaGreatDoor
open Go Go.RowKit
attribute [local go_sem] yields yUpon

/-- A mutation: its table, its partition's key and gone; a note. -/
structure Mu where
  table : ByteArray
  key : ByteArray
  gone : Int
structure Nt where
  id : Int
  body : ByteArray
def Mu.cells (x : Mu) : List Value := [.string x.table, .string x.key, .int .i64 x.gone, .slice none 0 0]
def Nt.cells (x : Nt) : List Value := [.int .i64 x.id, .string x.body]
def MusIn (w : World) (v : Value) (l : List Mu) : Prop := SliceIn w v l.length (l.flatMap Mu.cells)
def NtsIn (w : World) (v : Value) (l : List Nt) : Prop := SliceIn w v l.length (l.flatMap Nt.cells)
theorem MusIn.ext {w w' : World} (hE : Ext w w') {v : Value} {l : List Mu} (h : MusIn w v l) : MusIn w' v l := SliceIn.ext hE h
theorem NtsIn.ext {w w' : World} (hE : Ext w w') {v : Value} {l : List Nt} (h : NtsIn w v l) : NtsIn w' v l := SliceIn.ext hE h
theorem mus_at : ∀ {l : List Mu} {k : Nat} (hk : k < l.length) {j : Nat} (_ : j < 4), (l.flatMap Mu.cells)[k * 4 + j]? = (l[k]).cells[j]?
  | [], k, hk, _, _ => by simp at hk
  | o :: l, 0, _, j, hj => by rw [List.flatMap_cons, Nat.zero_mul, Nat.zero_add, List.getElem?_append_left (by show j < 4; exact hj)]; rfl
  | o :: l, k + 1, hk, j, hj => by
    have ih := mus_at (l := l) (k := k) (by simpa using hk) hj
    have e : o.cells.length = 4 := rfl
    rw [List.flatMap_cons, List.getElem?_append_right (by rw [e]; omega), e, show (k + 1) * 4 + j - 4 = k * 4 + j by omega, ih]
    rfl
theorem nts_at : ∀ {l : List Nt} {k : Nat} (hk : k < l.length) {j : Nat} (_ : j < 2), (l.flatMap Nt.cells)[k * 2 + j]? = (l[k]).cells[j]?
  | [], k, hk, _, _ => by simp at hk
  | o :: l, 0, _, j, hj => by rw [List.flatMap_cons, Nat.zero_mul, Nat.zero_add, List.getElem?_append_left (by show j < 2; exact hj)]; rfl
  | o :: l, k + 1, hk, j, hj => by
    have ih := nts_at (l := l) (k := k) (by simpa using hk) hj
    have e : o.cells.length = 2 := rfl
    rw [List.flatMap_cons, List.getElem?_append_right (by rw [e]; omega), e, show (k + 1) * 2 + j - 2 = k * 2 + j by omega, ih]
    rfl
theorem MusIn.get {w : World} {v : Value} {l : List Mu} (h : MusIn w v l) : ∃ a c, v = .slice a l.length c ∧ l.length ≤ c ∧ c ≤ 9223372036854775807 ∧ ∀ k (hk : k < l.length), ∃ b o, a = some ⟨b, o, none⟩ ∧ w.cell? ⟨b, o + k * 4, none⟩ = some (.string (l[k]).table) ∧ w.cell? ⟨b, o + k * 4 + 1, none⟩ = some (.string (l[k]).key) ∧ w.cell? ⟨b, o + k * 4 + 2, none⟩ = some (.int .i64 (l[k]).gone) ∧ w.cell? ⟨b, o + k * 4 + 3, none⟩ = some (.slice none 0 0) := by
  obtain ⟨a, c, rfl, hc, hcm, ha, hcell⟩ := h
  unfold maxLen at hcm
  refine ⟨a, c, rfl, hc, by omega, fun k hk => ?_⟩
  obtain ⟨b, o, rfl, h0⟩ := hcell (k * 4 + 0) _ (mus_at hk (by decide))
  obtain ⟨b1, o1, e1, h1⟩ := hcell (k * 4 + 1) _ (mus_at hk (by decide))
  cases e1
  obtain ⟨b1, o1, e1, h2⟩ := hcell (k * 4 + 2) _ (mus_at hk (by decide))
  cases e1
  obtain ⟨b1, o1, e1, h3⟩ := hcell (k * 4 + 3) _ (mus_at hk (by decide))
  cases e1
  exact ⟨b, o, rfl, h0, by rw [Nat.add_assoc]; exact h1, by rw [Nat.add_assoc]; exact h2, by rw [Nat.add_assoc]; exact h3⟩
theorem NtsIn.get {w : World} {v : Value} {l : List Nt} (h : NtsIn w v l) : ∃ a c, v = .slice a l.length c ∧ l.length ≤ c ∧ c ≤ 9223372036854775807 ∧ ∀ k (hk : k < l.length), ∃ b o, a = some ⟨b, o, none⟩ ∧ w.cell? ⟨b, o + k * 2, none⟩ = some (.int .i64 (l[k]).id) ∧ w.cell? ⟨b, o + k * 2 + 1, none⟩ = some (.string (l[k]).body) := by
  obtain ⟨a, c, rfl, hc, hcm, ha, hcell⟩ := h
  unfold maxLen at hcm
  refine ⟨a, c, rfl, hc, by omega, fun k hk => ?_⟩
  obtain ⟨b, o, rfl, h0⟩ := hcell (k * 2 + 0) _ (nts_at hk (by decide))
  obtain ⟨b1, o1, e1, h1⟩ := hcell (k * 2 + 1) _ (nts_at hk (by decide))
  cases e1
  exact ⟨b, o, rfl, h0, by rw [Nat.add_assoc]; exact h1⟩

def idB (n : Int) : Bool := decide (1 ≤ n) && decide (n ≤ 1099511627776)
def okMu (x : Mu) : Bool := nameB x.table && decide (0 ≤ x.gone)
def okNt (x : Nt) : Bool := idB x.id && decide (x.body.size ≤ 4096)
def cbB (M : List Mu) (A : List Nt) (D : List Int) : Bool := decide (M.length ≤ 64) && decide (A.length ≤ 300) && decide (D.length ≤ 300) && M.all okMu && A.all okNt && D.all idB

theorem check0_any (k : ByteArray) (g : Int) (hk : k.size ≤ 100) (h1 : g ≤ 1099511627776) (w : World) :
    Calls Tryz.prog 72 #[.agg #[.string k, .int .i64 g, .slice none 0 0]] w fun e w' => e = .returned (.bool (decide (0 ≤ g))) ∧ Ext w w' := by
  by_cases h0 : 0 ≤ g
  · rw [decide_eq_true h0]; exact check0_ok k g hk h0 h1 w
  · rw [decide_eq_false h0]; exact check0_no k g hk (by omega) w

theorem all_no {α : Type} {p : α → Bool} {l : List α} {k : Nat} (hk : k < l.length) (h : p l[k] = false) : l.all p = false := by
  rw [List.all_eq_false]
  exact ⟨_, List.getElem_mem hk, by rw [h]; decide⟩
theorem all_take {α : Type} {p : α → Bool} {l : List α} {k : Nat} (hk : k < l.length) (h : (l.take k).all p = true) (h1 : p l[k] = true) : (l.take (k + 1)).all p = true := by
  rw [List.take_succ_eq_append_getElem hk, List.all_append, h]; simpa using h1
end Go.Proofs.YtimbikbbbfpeeaaGreatDoor

/- pack.CheckBatch of any batch. (what a smaller cut has) -/
namespace Go.Proofs.YtimbikbbbfpeeaaGreatDoor
open Go Go.RowKit
attribute [local go_sem] yields yUpon

def okMt (x : Mt) : Bool := nameB x.table && ptB x.pa.key x.pa.gone (x.pa.ps.map (·.1))
def cbG (M : List Mt) (A : List Nt) (D : List Int) : Bool := decide (M.length ≤ 64) && decide (A.length ≤ 300) && decide (D.length ≤ 300) && M.all okMt && A.all okNt && D.all idB
end Go.Proofs.YtimbikbbbfpeeaaGreatDoor
