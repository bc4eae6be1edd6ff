/- Rows and partitions that come in, read. -/
import Derived.Test.YtfagnbofnaoncaaGreatDoorP7
import Derived.Test.YtfagnbofnaoncaaGreatDoorP27
import Derived.Test.YtfagnbofnaoncaaGreatDoorP15
import Derived.Test.YtfagnbofnaoncaaGreatDoorP5
import Derived.Test.YtfagnbofnaoncaaGreatDoorP10
import Derived.Test.YtfagnbofnaoncaaGreatDoorP14
import Derived.Test.YtfagnbofnaoncaaGreatDoorP17
set_option linter.unusedSimpArgs false
set_option linter.unusedVariables false
namespace Go.Proofs.YtfagnbofnaoncaaGreatDoor
open Go Go.RowKit Go.ChangeShapes Go.WideShapes Go.ChangeAt

section
variable {H : Type} {enc : TypeId × Value → H} {W : World} {spare : Nat → Bool} {held : Bool} {n : Nat} {cs : List Value} {x : DataW H × List MemPlace}
theorem cellsA_Cell : Tryz.prog.cellsOf 55 = 4 := by kernel_rfl
theorem cellsA_Col : Tryz.prog.cellsOf 111 = 5 := by kernel_rfl
theorem cellsA_Row : Tryz.prog.cellsOf 58 = 8 := by kernel_rfl
theorem cellsA_Part : Tryz.prog.cellsOf 50 = 3 := by kernel_rfl
theorem cellsA_Cols : Tryz.prog.cellsOf 56 = 1 := by kernel_rfl
theorem cellsA_Rows : Tryz.prog.cellsOf 48 = 1 := by kernel_rfl
theorem trod_cell (h : DataW.trod enc Tryz.prog W 0 spare held n 55 cs = some x) : ∃ c : Cl, cs = [.string c.val, .bool c.dead, .int .i64 c.at_, .int .i64 c.fin] := by
  obtain ⟨xs, m, _, _, hl, hlen, hf⟩ := DataW.trod_struct Tryz.underlying55 h
  rw [cellsA_Cell] at hl
  match xs, hlen with
  | [y0, y1, y2, y3], _ =>
    obtain ⟨s, e0⟩ := fld_string Tryz.underlying9 cells_string (hf 0 _ rfl)
    obtain ⟨b, e1⟩ := fld_bool Tryz.underlying4 cells_bool (hf 1 _ rfl)
    obtain ⟨i, e2, _⟩ := fld_int Tryz.underlying3 cells_int (hf 2 _ rfl)
    obtain ⟨j, e3, _⟩ := fld_int Tryz.underlying3 cells_int (hf 3 _ rfl)
    exact ⟨⟨s, b, i, j⟩, list4 hl e0 e1 e2 e3⟩
theorem trod_col (h : DataW.trod enc Tryz.prog W 0 spare held n 111 cs = some x) : ∃ c : Co, cs = [.string c.name, .string c.cell.val, .bool c.cell.dead, .int .i64 c.cell.at_, .int .i64 c.cell.fin] := by
  obtain ⟨xs, m, _, _, hl, hlen, hf⟩ := DataW.trod_struct Tryz.underlying111 h
  rw [cellsA_Col] at hl
  match xs, hlen with
  | [y0, y1], _ =>
    obtain ⟨s, e0⟩ := fld_string Tryz.underlying9 cells_string (hf 0 _ rfl)
    obtain ⟨c, e1⟩ := trod_cell (hf 1 _ rfl)
    have e1' : (cs.drop 1).take (Tryz.prog.cellsOf 55) = _ := e1
    rw [cellsA_Cell] at e1'
    exact ⟨⟨s, c⟩, list5 hl e0 e1'⟩
theorem coCells_flat (l : List Co) : coCells l = l.flatMap fun c => [.string c.name, .string c.cell.val, .bool c.cell.dead, .int .i64 c.cell.at_, .int .i64 c.cell.fin] := by
  induction l with
  | nil => rfl
  | cons c l ih => simp [coCells, ih]
theorem roCells_flat (l : List (Ro × Value)) : roCells l = l.flatMap fun p => [.string p.1.key, .string p.1.live.val, .bool p.1.live.dead, .int .i64 p.1.live.at_, .int .i64 p.1.live.fin, .int .i64 p.1.gone, .int .i64 p.1.shade, p.2] := by
  induction l with
  | nil => rfl
  | cons c l ih => simp [roCells, ih]
theorem trod_cols (h : DataW.trod enc Tryz.prog W 0 spare held n 56 cs = some x) : ∃ v l, cs = [v] ∧ ColsIn W v l := by
  obtain ⟨v, rfl, l, h, _⟩ := read_slice Tryz.underlying56 cellsA_Col (by decide) _ (fun _ => True) (fun _ _ _ h => let ⟨c, e⟩ := trod_col h; ⟨c, e, trivial⟩) h
  exact ⟨v, l, rfl, by unfold ColsIn; rw [coCells_flat]; exact h⟩
/-- A row's cells, its columns in memory. -/
theorem trod_row (h : DataW.trod enc Tryz.prog W 0 spare held n 58 cs = some x) : ∃ p : Ro × Value, cs = [.string p.1.key, .string p.1.live.val, .bool p.1.live.dead, .int .i64 p.1.live.at_, .int .i64 p.1.live.fin, .int .i64 p.1.gone, .int .i64 p.1.shade, p.2] ∧ ColsIn W p.2 p.1.cols := by
  obtain ⟨xs, m, _, _, hl, hlen, hf⟩ := DataW.trod_struct Tryz.underlying58 h
  rw [cellsA_Row] at hl
  match xs, hlen with
  | [y0, y1, y2, y3, y4], _ =>
    obtain ⟨s, e0⟩ := fld_string Tryz.underlying9 cells_string (hf 0 _ rfl)
    obtain ⟨c, e1⟩ := trod_cell (hf 1 _ rfl)
    obtain ⟨i, e2, _⟩ := fld_int Tryz.underlying3 cells_int (hf 2 _ rfl)
    obtain ⟨j, e3, _⟩ := fld_int Tryz.underlying3 cells_int (hf 3 _ rfl)
    obtain ⟨v, l, e4, hin⟩ := trod_cols (hf 4 _ rfl)
    have e1' : (cs.drop 1).take (Tryz.prog.cellsOf 55) = _ := e1
    have e4' : (cs.drop 7).take (Tryz.prog.cellsOf 56) = _ := e4
    rw [cellsA_Cell] at e1'
    rw [cellsA_Cols] at e4'
    exact ⟨(⟨s, c, i, j, l⟩, v), list8 hl e0 e1' e2 e3 (cell_of_cut e4'), hin⟩
theorem trod_rows (h : DataW.trod enc Tryz.prog W 0 spare held n 48 cs = some x) : ∃ v ps, cs = [v] ∧ RowsIn W v ps := by
  obtain ⟨v, rfl, l, h, hc⟩ := read_slice Tryz.underlying48 cellsA_Row (by decide) _ _ (fun _ _ _ h => trod_row h) h
  exact ⟨v, l, rfl, by rw [roCells_flat]; exact h, hc⟩
set_option maxRecDepth 100000 in
/-- A row that comes in. -/
theorem read_row {base : Nat} {v : Value} {d : DataW H} {p : List MemPlace} (hv : Value.okWide Tryz.prog W .any base 58 v)
    (h : DataW.Trod enc Tryz.prog W 0 (fun _ => true) true 58 v d p) : ∃ (r : Ro) (u : Value), v = (.agg #[.string r.key, .string r.live.val, .bool r.live.dead, .int .i64 r.live.at_, .int .i64 r.live.fin, .int .i64 r.gone, .int .i64 r.shade, u]) ∧ ColsIn W u r.cols := by
  obtain ⟨cs, rfl, hsz⟩ := okWide_struct Tryz.underlying58 hv
  obtain ⟨fuel, hf⟩ := h
  obtain ⟨⟨r, u⟩, e, hin⟩ := trod_row hf
  exact ⟨r, u, congrArg Value.agg (Array.toList_inj.1 e), hin⟩
set_option maxRecDepth 100000 in
/-- A partition that comes in. -/
theorem read_part {base : Nat} {v : Value} {d : DataW H} {p : List MemPlace} (hv : Value.okWide Tryz.prog W .any base 50 v)
    (h : DataW.Trod enc Tryz.prog W 0 (fun _ => true) true 50 v d p) : ∃ (k : ByteArray) (g : Int) (u : Value) (ps : List (Ro × Value)), v = .agg #[.string k, .int .i64 g, u] ∧ RowsIn W u ps := by
  obtain ⟨cs, rfl, hsz⟩ := okWide_struct Tryz.underlying50 hv
  obtain ⟨fuel, hf⟩ := h
  have hf : DataW.trod enc Tryz.prog W 0 (fun _ => true) true fuel 50 cs.toList = some (d, p) := hf
  obtain ⟨xs, m, _, _, hl, hlen, hff⟩ := DataW.trod_struct Tryz.underlying50 hf
  rw [cellsA_Part] at hl
  match xs, hlen with
  | [y0, y1, y2], _ =>
    obtain ⟨s, e0⟩ := fld_string Tryz.underlying9 cells_string (hff 0 _ rfl)
    obtain ⟨i, e1, _⟩ := fld_int Tryz.underlying3 cells_int (hff 1 _ rfl)
    obtain ⟨u, ps, e2, hin⟩ := trod_rows (hff 2 _ rfl)
    have e2' : (cs.toList.drop 2).take (Tryz.prog.cellsOf 48) = _ := e2
    rw [cellsA_Rows] at e2'
    exact ⟨s, i, u, ps, congrArg Value.agg (Array.toList_inj.1 (list3 hl e0 e1 (cell_of_cut e2'))), hin⟩
end
end Go.Proofs.YtfagnbofnaoncaaGreatDoor

/- Batches that come in, read. (what a smaller cut has) -/
namespace Go.Proofs.YtfagnbofnaoncaaGreatDoor
open Go Go.RowKit Go.ChangeShapes Go.WideShapes Go.ChangeAt

section
variable {H : Type} {enc : TypeId × Value → H} {W : World} {spare : Nat → Bool} {held : Bool} {n : Nat} {cs : List Value} {x : DataW H × List MemPlace}
theorem cellsA_Mut : Tryz.prog.cellsOf 106 = 4 := by kernel_rfl
theorem cellsA_Muts : Tryz.prog.cellsOf 22 = 1 := by kernel_rfl
theorem cellsA_Ints : Tryz.prog.cellsOf 35 = 1 := by kernel_rfl
theorem fld_stringB {t : TypeId} {o : Nat} {y : DataW H × List MemPlace} {P : Program} (ht : P.underlying t = some .string) (hc : P.cellsOf t = 1) (h : DataW.trod enc P W 0 spare held n t ((cs.drop o).take (P.cellsOf t)) = some y) : ∃ s : ByteArray, cs[o]? = some (.string s) ∧ s.size ≤ maxLen := by
  obtain ⟨s, e, _, hs⟩ := DataW.trod_string ht h
  rw [hc] at e
  exact ⟨s, cell_of_cut e, hs⟩
set_option maxRecDepth 100000 in
theorem trod_partB (h : DataW.trod enc Tryz.prog W 0 spare held n 50 cs = some x) : ∃ p : Pa, cs = [.string p.key, .int .i64 p.gone, p.rv] ∧ RowsIn W p.rv p.ps := by
  obtain ⟨xs, m, _, _, hl, hlen, hff⟩ := DataW.trod_struct Tryz.underlying50 h
  rw [cellsA_Part] at hl
  match xs, hlen with
  | [y0, y1, y2], _ =>
    obtain ⟨s, e0⟩ := fld_string Tryz.underlying9 cells_string (hff 0 _ rfl)
    obtain ⟨i, e1, _⟩ := fld_int Tryz.underlying3 cells_int (hff 1 _ rfl)
    obtain ⟨u, ps, e2, hin⟩ := trod_rows (hff 2 _ rfl)
    have e2' : (cs.drop 2).take (Tryz.prog.cellsOf 48) = _ := e2
    rw [cellsA_Rows] at e2'
    exact ⟨⟨s, i, u, ps⟩, list3 hl e0 e1 (cell_of_cut e2'), hin⟩
set_option maxRecDepth 100000 in
theorem trod_mut (h : DataW.trod enc Tryz.prog W 0 spare held n 106 cs = some x) : ∃ m : Mt, cs = (mt4 m).toList ∧ (RowsIn W m.pa.rv m.pa.ps ∧ m.table.size ≤ maxLen) := by
  obtain ⟨xs, m, _, _, hl, hlen, hff⟩ := DataW.trod_struct Tryz.underlying106 h
  rw [cellsA_Mut] at hl
  match xs, hlen with
  | [y0, y1], _ =>
    obtain ⟨s, e0, hs⟩ := fld_stringB Tryz.underlying9 cells_string (hff 0 _ rfl)
    obtain ⟨p, e1, hin⟩ := trod_partB (hff 1 _ rfl)
    have e1' : (cs.drop 1).take (Tryz.prog.cellsOf 50) = _ := e1
    rw [cellsA_Part] at e1'
    refine ⟨⟨s, p⟩, ?_, hin, hs⟩
    match cs, hl with
    | [a, b, c, d], _ =>
      simp at e0 e1'
      simp [mt4, e0, e1']
set_option maxRecDepth 100000 in
theorem trod_muts (h : DataW.trod enc Tryz.prog W 0 spare held n 22 cs = some x) : ∃ v M, cs = [v] ∧ MtsIn W v M ∧ ∀ m ∈ M, m.table.size ≤ maxLen := by
  obtain ⟨v, rfl, l, h, hc⟩ := read_slice Tryz.underlying22 cellsA_Mut (by decide) (fun m : Mt => (mt4 m).toList) _ (fun _ _ _ h => trod_mut h) h
  exact ⟨v, l, rfl, ⟨h, fun m hm => (hc m hm).1⟩, fun m hm => (hc m hm).2⟩
set_option maxRecDepth 100000 in
theorem trod_intsB (h : DataW.trod enc Tryz.prog W 0 spare held n 35 cs = some x) : ∃ v l, cs = [v] ∧ IntsIn W v .i64 l := by
  obtain ⟨v, rfl, l, h, _⟩ := read_slice Tryz.underlying35 cells_int (by decide) (fun q : Int => [Value.int .i64 q]) (fun _ => True) (fun _ _ _ h => by
    obtain ⟨i, e, _, _⟩ := DataW.trod_int Tryz.underlying3 h
    exact ⟨i, e, trivial⟩) h
  refine ⟨v, l, rfl, ?_⟩
  unfold IntsIn kcells
  rw [show l.map (Value.int .i64) = l.flatMap (fun q : Int => [Value.int .i64 q]) by rw [List.map_eq_flatMap]]
  exact h
end
end Go.Proofs.YtfagnbofnaoncaaGreatDoor

/- Messages that come in, read. -/
namespace Go.Proofs.YtfagnbofnaoncaaGreatDoor
open Go Go.RowKit Go.ChangeShapes Go.WideShapes Go.ChangeAt

section
variable {H : Type} {enc : TypeId × Value → H} {W : World} {spare : Nat → Bool} {held : Bool} {n : Nat} {cs : List Value} {x : DataW H × List MemPlace}
theorem cellsA_Strs : Tryz.prog.cellsOf 23 = 1 := by kernel_rfl
theorem cellsA_Msg : Tryz.prog.cellsOf 25 = 7 := by kernel_rfl
set_option maxRecDepth 100000 in
theorem trod_texts (h : DataW.trod enc Tryz.prog W 0 spare held n 23 cs = some x) : ∃ v l, cs = [v] ∧ TxIn W v l ∧ ∀ s ∈ l, s.size ≤ maxLen := by
  obtain ⟨v, rfl, l, h, hc⟩ := read_slice Tryz.underlying23 cells_string (by decide) (fun q : ByteArray => [Value.string q]) (fun q => q.size ≤ maxLen) (fun _ _ _ h => by
    obtain ⟨s, e, _, hs⟩ := DataW.trod_string Tryz.underlying9 h
    exact ⟨s, e, hs⟩) h
  refine ⟨v, l, rfl, ?_, hc⟩
  unfold TxIn
  rw [show l.map Value.string = l.flatMap (fun q : ByteArray => [Value.string q]) by rw [List.map_eq_flatMap]]
  exact h
theorem list7 {α : Type} {l : List α} {a b c d e f g : α} (h : l.length = 7) (h0 : l[0]? = some a) (h1 : l[1]? = some b) (h2 : l[2]? = some c) (h3 : l[3]? = some d) (h4 : l[4]? = some e) (h5 : l[5]? = some f) (h6 : l[6]? = some g) : l = [a, b, c, d, e, f, g] := by
  match l, h with
  | [x0, x1, x2, x3, x4, x5, x6], _ => simp at h0 h1 h2 h3 h4 h5 h6; rw [h0, h1, h2, h3, h4, h5, h6]
set_option maxRecDepth 100000 in
/-- A message that comes in. -/
theorem read_msg {base : Nat} {v : Value} {d : DataW H} {p : List MemPlace} (hv : Value.okWide Tryz.prog W .any base 25 v)
    (h : DataW.Trod enc Tryz.prog W 0 (fun _ => true) true 25 v d p) : ∃ (m : Hd) (vm vk : Value) (M : List Mt) (K : List ByteArray), v = .agg (hd7 m vm vk) ∧ MtsIn W vm M ∧ TxIn W vk K ∧ (∀ m ∈ M, m.table.size ≤ maxLen) ∧ ∀ k ∈ K, k.size ≤ maxLen := by
  obtain ⟨cs, rfl, hsz⟩ := okWide_struct Tryz.underlying25 hv
  obtain ⟨fuel, hf⟩ := h
  have hf : DataW.trod enc Tryz.prog W 0 (fun _ => true) true fuel 25 cs.toList = some (d, p) := hf
  obtain ⟨xs, m, _, _, hl, hlen, hff⟩ := DataW.trod_struct Tryz.underlying25 hf
  rw [cellsA_Msg] at hl
  match xs, hlen with
  | [y0, y1, y2, y3, y4, y5, y6], _ =>
    obtain ⟨i0, e0, _⟩ := fld_int Tryz.underlying3 cells_int (hff 0 _ rfl)
    obtain ⟨i1, e1, _⟩ := fld_int Tryz.underlying3 cells_int (hff 1 _ rfl)
    obtain ⟨i2, e2, _⟩ := fld_int Tryz.underlying3 cells_int (hff 2 _ rfl)
    obtain ⟨i3, e3, _⟩ := fld_int Tryz.underlying3 cells_int (hff 3 _ rfl)
    obtain ⟨vm, M, e4, hM, hMb⟩ := trod_muts (hff 4 _ rfl)
    obtain ⟨vk, K, e5, hK, hKb⟩ := trod_texts (hff 5 _ rfl)
    obtain ⟨i6, e6, _⟩ := fld_int Tryz.underlying3 cells_int (hff 6 _ rfl)
    have e4' : (cs.toList.drop 4).take (Tryz.prog.cellsOf 22) = _ := e4
    have e5' : (cs.toList.drop 5).take (Tryz.prog.cellsOf 23) = _ := e5
    rw [cellsA_Muts] at e4'
    rw [cellsA_Strs] at e5'
    exact ⟨⟨i0, i1, i2, i3, i6⟩, vm, vk, M, K, congrArg Value.agg (Array.toList_inj.1 (list7 hl e0 e1 e2 e3 (cell_of_cut e4') (cell_of_cut e5') e6)), hM, hK, hMb, hKb⟩
end
end Go.Proofs.YtfagnbofnaoncaaGreatDoor

/- How many bytes a partition of few rows takes. -/
namespace Go.Proofs.YtfagnbofnaoncaaGreatDoor
open Go Go.RowKit
theorem cellP_few2 {c : Cl} (h : checkC c.val c.dead c.at_ c.fin = true) : (cellP c).length ≤ 128 := by
  rcases check_shape h with rfl | ⟨n, h0, h1, rfl⟩ | ⟨n, m, h0, h1, h2, h3, h4⟩
  · decide
  · have l1 := num_length (x := n) (by omega)
    unfold cellP
    simp only [Int.toNat_natCast]
    rw [if_neg (show ¬ (n : Int) = 0 by omega)]
    simp only [if_true, List.length_append, List.length_cons, List.length_nil]
    omega
  · have hok := checkC_ok h
    obtain ⟨g0, g1, g2, g3, g4⟩ := hok
    have l1 := num_length (x := c.at_.toNat) (by omega)
    have l2 := num_length (x := c.val.size) (by omega)
    have l3 := num_length (x := c.fin.toNat) (by omega)
    unfold cellP
    split
    · simp only [List.append_nil]; omega
    · split
      · simp only [List.length_append, List.length_cons, List.length_nil]; omega
      · simp only [List.length_append, List.length_cons, List.length_nil, dat_size]; omega
theorem rowP_few2 {r : Ro} (h : rwB r = true) : (rowP r).length ≤ 2500 := by
  have hok := rwB_ok h
  unfold rwB at h
  simp only [Bool.and_eq_true] at h
  obtain ⟨a, hl, _, _, _, _, g⟩ := hdB_parts h.1
  have a' := of_decide_eq_false a
  have g' := of_decide_eq_false g
  obtain ⟨h1, h2, h3, h4, h5, h6, h7, h8⟩ := hok
  have l1 := num_length (x := r.key.size) (by omega)
  have l2 := cellP_few2 hl
  have l3 := num_length (x := r.gone.toNat) (by omega)
  have l4 := num_length (x := r.shade.toNat) (by omega)
  have l5 := num_length (x := r.cols.length) (by omega)
  have l6 := flat_le (f := colP) (n := 237) (fun c hc => by
    obtain ⟨_, k1, k2, _⟩ := csB_ok h.2 c hc
    have m1 := nameB_size k1
    have m2 := cellP_few2 k2
    have m3 := num_length (x := c.name.size) (by omega)
    unfold colP
    simp only [List.length_append, dat_size]
    omega)
  unfold rowP
  simp only [List.length_append, dat_size]
  omega
theorem wholeP_few2 {k : ByteArray} {g : Int} {rs : List Ro} (h : ptB k g rs = true) : (wholeP k g rs).length ≤ 200 + rs.length * 2500 ∧ 3 ≤ (wholeP k g rs).length := by
  have hok := ptB_ok h
  unfold ptB at h
  simp only [Bool.and_eq_true, Bool.not_eq_true'] at h
  obtain ⟨⟨⟨⟨h0, _⟩, _⟩, h4⟩, h5⟩ := h
  have c := of_decide_eq_false h0
  obtain ⟨h1, h2, h3, _, _⟩ := hok
  have l1 := num_length (x := k.size) (by omega)
  have l3 := num_length (x := g.toNat) (by omega)
  have l5 := num_length (x := rs.length) (by have := of_decide_eq_false h4; omega)
  have l6 := flat_le (f := rowP) (fun c hc => rowP_few2 (rsB_ok h5 c hc))
  have n1 := num_ge k.size
  have n2 := num_ge g.toNat
  have n3 := num_ge rs.length
  unfold wholeP
  simp only [List.length_append, dat_size]
  constructor <;> omega
end Go.Proofs.YtfagnbofnaoncaaGreatDoor
