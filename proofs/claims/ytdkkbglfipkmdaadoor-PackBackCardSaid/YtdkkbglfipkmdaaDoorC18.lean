/- Rows and partitions that come in, read. -/
import Derived.Test.YtdkkbglfipkmdaaDoorC5
import Derived.Test.YtdkkbglfipkmdaaDoorC17
import Derived.Test.YtdkkbglfipkmdaaDoorC13
import Derived.Test.YtdkkbglfipkmdaaDoorC11
import Derived.Test.YtdkkbglfipkmdaaDoorC3
set_option linter.unusedSimpArgs false
set_option linter.unusedVariables false
namespace Go.Proofs.YtdkkbglfipkmdaaDoor
open Go Go.RowKit Go.ChangeShapes Go.WideShapes Go.ChangeAt

section
variable {H : Type} {enc : TypeId × Value → H} {W : World} {spare : Nat → Bool} {held : Bool} {n : Nat} {cs : List Value} {x : DataW H × List MemPlace}
theorem cellsA_Cell : Tryd.prog.cellsOf 99 = 4 := by kernel_rfl
theorem cellsA_Col : Tryd.prog.cellsOf 160 = 5 := by kernel_rfl
theorem cellsA_Row : Tryd.prog.cellsOf 102 = 8 := by kernel_rfl
theorem cellsA_Part : Tryd.prog.cellsOf 30 = 3 := by kernel_rfl
theorem cellsA_Cols : Tryd.prog.cellsOf 100 = 1 := by kernel_rfl
theorem cellsA_Rows : Tryd.prog.cellsOf 28 = 1 := by kernel_rfl
theorem trod_cell (h : DataW.trod enc Tryd.prog W 0 spare held n 99 cs = some x) : ∃ c : Cl, cs = [.string c.val, .bool c.dead, .int .i64 c.at_, .int .i64 c.fin] := by
  obtain ⟨xs, m, _, _, hl, hlen, hf⟩ := DataW.trod_struct Tryd.underlying99 h
  rw [cellsA_Cell] at hl
  match xs, hlen with
  | [y0, y1, y2, y3], _ =>
    obtain ⟨s, e0⟩ := fld_string Tryd.underlying9 cells_string (hf 0 _ rfl)
    obtain ⟨b, e1⟩ := fld_bool Tryd.underlying4 cells_bool (hf 1 _ rfl)
    obtain ⟨i, e2, _⟩ := fld_int Tryd.underlying3 cells_int (hf 2 _ rfl)
    obtain ⟨j, e3, _⟩ := fld_int Tryd.underlying3 cells_int (hf 3 _ rfl)
    exact ⟨⟨s, b, i, j⟩, list4 hl e0 e1 e2 e3⟩
theorem trod_col (h : DataW.trod enc Tryd.prog W 0 spare held n 160 cs = some x) : ∃ c : Co, cs = [.string c.name, .string c.cell.val, .bool c.cell.dead, .int .i64 c.cell.at_, .int .i64 c.cell.fin] := by
  obtain ⟨xs, m, _, _, hl, hlen, hf⟩ := DataW.trod_struct Tryd.underlying160 h
  rw [cellsA_Col] at hl
  match xs, hlen with
  | [y0, y1], _ =>
    obtain ⟨s, e0⟩ := fld_string Tryd.underlying9 cells_string (hf 0 _ rfl)
    obtain ⟨c, e1⟩ := trod_cell (hf 1 _ rfl)
    have e1' : (cs.drop 1).take (Tryd.prog.cellsOf 99) = _ := e1
    rw [cellsA_Cell] at e1'
    exact ⟨⟨s, c⟩, list5 hl e0 e1'⟩
theorem coCells_flat (l : List Co) : coCells l = l.flatMap fun c => [.string c.name, .string c.cell.val, .bool c.cell.dead, .int .i64 c.cell.at_, .int .i64 c.cell.fin] := by
  induction l with
  | nil => rfl
  | cons c l ih => simp [coCells, ih]
theorem roCells_flat (l : List (Ro × Value)) : roCells l = l.flatMap fun p => [.string p.1.key, .string p.1.live.val, .bool p.1.live.dead, .int .i64 p.1.live.at_, .int .i64 p.1.live.fin, .int .i64 p.1.gone, .int .i64 p.1.shade, p.2] := by
  induction l with
  | nil => rfl
  | cons c l ih => simp [roCells, ih]
theorem trod_cols (h : DataW.trod enc Tryd.prog W 0 spare held n 100 cs = some x) : ∃ v l, cs = [v] ∧ ColsIn W v l := by
  obtain ⟨v, rfl, l, h, _⟩ := read_slice Tryd.underlying100 cellsA_Col (by decide) _ (fun _ => True) (fun _ _ _ h => let ⟨c, e⟩ := trod_col h; ⟨c, e, trivial⟩) h
  exact ⟨v, l, rfl, by unfold ColsIn; rw [coCells_flat]; exact h⟩
/-- A row's cells, its columns in memory. -/
theorem trod_row (h : DataW.trod enc Tryd.prog W 0 spare held n 102 cs = some x) : ∃ p : Ro × Value, cs = [.string p.1.key, .string p.1.live.val, .bool p.1.live.dead, .int .i64 p.1.live.at_, .int .i64 p.1.live.fin, .int .i64 p.1.gone, .int .i64 p.1.shade, p.2] ∧ ColsIn W p.2 p.1.cols := by
  obtain ⟨xs, m, _, _, hl, hlen, hf⟩ := DataW.trod_struct Tryd.underlying102 h
  rw [cellsA_Row] at hl
  match xs, hlen with
  | [y0, y1, y2, y3, y4], _ =>
    obtain ⟨s, e0⟩ := fld_string Tryd.underlying9 cells_string (hf 0 _ rfl)
    obtain ⟨c, e1⟩ := trod_cell (hf 1 _ rfl)
    obtain ⟨i, e2, _⟩ := fld_int Tryd.underlying3 cells_int (hf 2 _ rfl)
    obtain ⟨j, e3, _⟩ := fld_int Tryd.underlying3 cells_int (hf 3 _ rfl)
    obtain ⟨v, l, e4, hin⟩ := trod_cols (hf 4 _ rfl)
    have e1' : (cs.drop 1).take (Tryd.prog.cellsOf 99) = _ := e1
    have e4' : (cs.drop 7).take (Tryd.prog.cellsOf 100) = _ := e4
    rw [cellsA_Cell] at e1'
    rw [cellsA_Cols] at e4'
    exact ⟨(⟨s, c, i, j, l⟩, v), list8 hl e0 e1' e2 e3 (cell_of_cut e4'), hin⟩
theorem trod_rows (h : DataW.trod enc Tryd.prog W 0 spare held n 28 cs = some x) : ∃ v ps, cs = [v] ∧ RowsIn W v ps := by
  obtain ⟨v, rfl, l, h, hc⟩ := read_slice Tryd.underlying28 cellsA_Row (by decide) _ _ (fun _ _ _ h => trod_row h) h
  exact ⟨v, l, rfl, by rw [roCells_flat]; exact h, hc⟩
set_option maxRecDepth 100000 in
/-- A row that comes in. -/
theorem read_row {base : Nat} {v : Value} {d : DataW H} {p : List MemPlace} (hv : Value.okWide Tryd.prog W .any base 102 v)
    (h : DataW.Trod enc Tryd.prog W 0 (fun _ => true) true 102 v d p) : ∃ (r : Ro) (u : Value), v = (.agg #[.string r.key, .string r.live.val, .bool r.live.dead, .int .i64 r.live.at_, .int .i64 r.live.fin, .int .i64 r.gone, .int .i64 r.shade, u]) ∧ ColsIn W u r.cols := by
  obtain ⟨cs, rfl, hsz⟩ := okWide_struct Tryd.underlying102 hv
  obtain ⟨fuel, hf⟩ := h
  obtain ⟨⟨r, u⟩, e, hin⟩ := trod_row hf
  exact ⟨r, u, congrArg Value.agg (Array.toList_inj.1 e), hin⟩
set_option maxRecDepth 100000 in
/-- A partition that comes in. -/
theorem read_part {base : Nat} {v : Value} {d : DataW H} {p : List MemPlace} (hv : Value.okWide Tryd.prog W .any base 30 v)
    (h : DataW.Trod enc Tryd.prog W 0 (fun _ => true) true 30 v d p) : ∃ (k : ByteArray) (g : Int) (u : Value) (ps : List (Ro × Value)), v = .agg #[.string k, .int .i64 g, u] ∧ RowsIn W u ps := by
  obtain ⟨cs, rfl, hsz⟩ := okWide_struct Tryd.underlying30 hv
  obtain ⟨fuel, hf⟩ := h
  have hf : DataW.trod enc Tryd.prog W 0 (fun _ => true) true fuel 30 cs.toList = some (d, p) := hf
  obtain ⟨xs, m, _, _, hl, hlen, hff⟩ := DataW.trod_struct Tryd.underlying30 hf
  rw [cellsA_Part] at hl
  match xs, hlen with
  | [y0, y1, y2], _ =>
    obtain ⟨s, e0⟩ := fld_string Tryd.underlying9 cells_string (hff 0 _ rfl)
    obtain ⟨i, e1, _⟩ := fld_int Tryd.underlying3 cells_int (hff 1 _ rfl)
    obtain ⟨u, ps, e2, hin⟩ := trod_rows (hff 2 _ rfl)
    have e2' : (cs.toList.drop 2).take (Tryd.prog.cellsOf 28) = _ := e2
    rw [cellsA_Rows] at e2'
    exact ⟨s, i, u, ps, congrArg Value.agg (Array.toList_inj.1 (list3 hl e0 e1 (cell_of_cut e2'))), hin⟩
end
end Go.Proofs.YtdkkbglfipkmdaaDoor

/- Batches that come in, read. -/
namespace Go.Proofs.YtdkkbglfipkmdaaDoor
open Go Go.RowKit Go.ChangeShapes Go.WideShapes Go.ChangeAt

section
variable {H : Type} {enc : TypeId × Value → H} {W : World} {spare : Nat → Bool} {held : Bool} {n : Nat} {cs : List Value} {x : DataW H × List MemPlace}
theorem cellsA_Mut : Tryd.prog.cellsOf 59 = 4 := by kernel_rfl
theorem cellsA_Note : Tryd.prog.cellsOf 61 = 2 := by kernel_rfl
theorem cellsA_Muts : Tryd.prog.cellsOf 36 = 1 := by kernel_rfl
theorem cellsA_Notes : Tryd.prog.cellsOf 37 = 1 := by kernel_rfl
theorem cellsA_Ints : Tryd.prog.cellsOf 22 = 1 := by kernel_rfl
theorem cellsA_Batch : Tryd.prog.cellsOf 39 = 3 := by kernel_rfl
theorem fld_stringB {t : TypeId} {o : Nat} {y : DataW H × List MemPlace} {P : Program} (ht : P.underlying t = some .string) (hc : P.cellsOf t = 1) (h : DataW.trod enc P W 0 spare held n t ((cs.drop o).take (P.cellsOf t)) = some y) : ∃ s : ByteArray, cs[o]? = some (.string s) ∧ s.size ≤ maxLen := by
  obtain ⟨s, e, _, hs⟩ := DataW.trod_string ht h
  rw [hc] at e
  exact ⟨s, cell_of_cut e, hs⟩
set_option maxRecDepth 100000 in
theorem trod_partB (h : DataW.trod enc Tryd.prog W 0 spare held n 30 cs = some x) : ∃ p : Pa, cs = [.string p.key, .int .i64 p.gone, p.rv] ∧ RowsIn W p.rv p.ps := by
  obtain ⟨xs, m, _, _, hl, hlen, hff⟩ := DataW.trod_struct Tryd.underlying30 h
  rw [cellsA_Part] at hl
  match xs, hlen with
  | [y0, y1, y2], _ =>
    obtain ⟨s, e0⟩ := fld_string Tryd.underlying9 cells_string (hff 0 _ rfl)
    obtain ⟨i, e1, _⟩ := fld_int Tryd.underlying3 cells_int (hff 1 _ rfl)
    obtain ⟨u, ps, e2, hin⟩ := trod_rows (hff 2 _ rfl)
    have e2' : (cs.drop 2).take (Tryd.prog.cellsOf 28) = _ := e2
    rw [cellsA_Rows] at e2'
    exact ⟨⟨s, i, u, ps⟩, list3 hl e0 e1 (cell_of_cut e2'), hin⟩
set_option maxRecDepth 100000 in
theorem trod_mut (h : DataW.trod enc Tryd.prog W 0 spare held n 59 cs = some x) : ∃ m : Mt, cs = (mt4 m).toList ∧ (RowsIn W m.pa.rv m.pa.ps ∧ m.table.size ≤ maxLen) := by
  obtain ⟨xs, m, _, _, hl, hlen, hff⟩ := DataW.trod_struct Tryd.underlying59 h
  rw [cellsA_Mut] at hl
  match xs, hlen with
  | [y0, y1], _ =>
    obtain ⟨s, e0, hs⟩ := fld_stringB Tryd.underlying9 cells_string (hff 0 _ rfl)
    obtain ⟨p, e1, hin⟩ := trod_partB (hff 1 _ rfl)
    have e1' : (cs.drop 1).take (Tryd.prog.cellsOf 30) = _ := e1
    rw [cellsA_Part] at e1'
    refine ⟨⟨s, p⟩, ?_, hin, hs⟩
    match cs, hl with
    | [a, b, c, d], _ =>
      simp at e0 e1'
      simp [mt4, e0, e1']
set_option maxRecDepth 100000 in
theorem trod_muts (h : DataW.trod enc Tryd.prog W 0 spare held n 36 cs = some x) : ∃ v M, cs = [v] ∧ MtsIn W v M ∧ ∀ m ∈ M, m.table.size ≤ maxLen := by
  obtain ⟨v, rfl, l, h, hc⟩ := read_slice Tryd.underlying36 cellsA_Mut (by decide) (fun m : Mt => (mt4 m).toList) _ (fun _ _ _ h => trod_mut h) h
  exact ⟨v, l, rfl, ⟨h, fun m hm => (hc m hm).1⟩, fun m hm => (hc m hm).2⟩
set_option maxRecDepth 100000 in
theorem trod_noteB (h : DataW.trod enc Tryd.prog W 0 spare held n 61 cs = some x) : ∃ q : Nt, cs = q.cells ∧ q.body.size ≤ maxLen := by
  obtain ⟨xs, m, _, _, hl, hlen, hff⟩ := DataW.trod_struct Tryd.underlying61 h
  rw [cellsA_Note] at hl
  match xs, hlen with
  | [y0, y1], _ =>
    obtain ⟨i, e0, _⟩ := fld_int Tryd.underlying3 cells_int (hff 0 _ rfl)
    obtain ⟨s, e1, hs⟩ := fld_stringB Tryd.underlying9 cells_string (hff 1 _ rfl)
    refine ⟨⟨i, s⟩, ?_, hs⟩
    match cs, hl with
    | [a, b], _ =>
      simp at e0 e1
      simp [Nt.cells, e0, e1]
set_option maxRecDepth 100000 in
theorem trod_notesB (h : DataW.trod enc Tryd.prog W 0 spare held n 37 cs = some x) : ∃ v A, cs = [v] ∧ NtsIn W v A ∧ ∀ a ∈ A, a.body.size ≤ maxLen := by
  obtain ⟨v, rfl, l, h, hc⟩ := read_slice Tryd.underlying37 cellsA_Note (by decide) Nt.cells _ (fun _ _ _ h => trod_noteB h) h
  exact ⟨v, l, rfl, h, hc⟩
set_option maxRecDepth 100000 in
theorem trod_intsB (h : DataW.trod enc Tryd.prog W 0 spare held n 22 cs = some x) : ∃ v l, cs = [v] ∧ IntsIn W v .i64 l := by
  obtain ⟨v, rfl, l, h, _⟩ := read_slice Tryd.underlying22 cells_int (by decide) (fun q : Int => [Value.int .i64 q]) (fun _ => True) (fun _ _ _ h => by
    obtain ⟨i, e, _, _⟩ := DataW.trod_int Tryd.underlying3 h
    exact ⟨i, e, trivial⟩) h
  refine ⟨v, l, rfl, ?_⟩
  unfold IntsIn kcells
  rw [show l.map (Value.int .i64) = l.flatMap (fun q : Int => [Value.int .i64 q]) by rw [List.map_eq_flatMap]]
  exact h
set_option maxRecDepth 100000 in
/-- A batch that comes in. -/
theorem read_batch {base : Nat} {v : Value} {d : DataW H} {p : List MemPlace} (hv : Value.okWide Tryd.prog W .any base 39 v)
    (h : DataW.Trod enc Tryd.prog W 0 (fun _ => true) true 39 v d p) : ∃ (vm va vd : Value) (M : List Mt) (A : List Nt) (D : List Int), v = .agg #[vm, va, vd] ∧ MtsIn W vm M ∧ NtsIn W va A ∧ IntsIn W vd .i64 D ∧ (∀ m ∈ M, m.table.size ≤ maxLen) ∧ ∀ a ∈ A, a.body.size ≤ maxLen := by
  obtain ⟨cs, rfl, hsz⟩ := okWide_struct Tryd.underlying39 hv
  obtain ⟨fuel, hf⟩ := h
  have hf : DataW.trod enc Tryd.prog W 0 (fun _ => true) true fuel 39 cs.toList = some (d, p) := hf
  obtain ⟨xs, m, _, _, hl, hlen, hff⟩ := DataW.trod_struct Tryd.underlying39 hf
  rw [cellsA_Batch] at hl
  match xs, hlen with
  | [y0, y1, y2], _ =>
    obtain ⟨vm, M, e0, hM, hMb⟩ := trod_muts (hff 0 _ rfl)
    obtain ⟨va, A, e1, hA, hAb⟩ := trod_notesB (hff 1 _ rfl)
    obtain ⟨vd, D, e2, hD⟩ := trod_intsB (hff 2 _ rfl)
    have e0' : (cs.toList.drop 0).take (Tryd.prog.cellsOf 36) = _ := e0
    have e1' : (cs.toList.drop 1).take (Tryd.prog.cellsOf 37) = _ := e1
    have e2' : (cs.toList.drop 2).take (Tryd.prog.cellsOf 22) = _ := e2
    rw [cellsA_Muts] at e0'
    rw [cellsA_Notes] at e1'
    rw [cellsA_Ints] at e2'
    exact ⟨vm, va, vd, M, A, D, congrArg Value.agg (Array.toList_inj.1 (list3 hl (cell_of_cut e0') (cell_of_cut e1') (cell_of_cut e2'))), hM, hA, hD, hMb, hAb⟩
end
end Go.Proofs.YtdkkbglfipkmdaaDoor

/- b[:hi], b[lo:] of a slice of bytes, as opaque values. -/
namespace Go.Proofs.YtdkkbglfipkmdaaDoor
open Go Go.RowKit

section
variable {ops : Array Oper} {Q : Exit → Act → World → Prop} {a : Act} {w : World} {rest : List Oper} {o : Oper}
theorem run_subTo {ad : Option Addr} {n c hi : Nat} (h2 : hi ≤ n) (h3 : n ≤ c) (w : World) :
    ∃ v, (Instr.sliceAt 24 (.slice ad n c) none (some (.int .i64 (hi : Int))) none).run Tryd.prog w = .ok v w ∧ v = subV ad c 0 hi := by
  obtain ⟨i, hi', hs⟩ := Option.map_eq_some_iff.1 size_u8
  have e2 : (0 : Int) ≤ (hi : Int) ∧ (hi : Int) ≤ (c : Int) := ⟨by omega, by omega⟩
  have e4 : hi ≤ c := by omega
  refine ⟨_, ?_, rfl⟩
  simp [Instr.sliceAt, Instr.slice, Instr.sliceBounds, Instr.sliceBound, run_underlying und_bytes, sizeOf, typeInfo, hi', hs, go_sem, e2, e4, subV]
theorem run_subFrom {ad : Option Addr} {n c lo : Nat} (h1 : lo ≤ n) (h3 : n ≤ c) (w : World) :
    ∃ v, (Instr.sliceAt 24 (.slice ad n c) (some (.int .i64 (lo : Int))) none none).run Tryd.prog w = .ok v w ∧ v = subV ad c lo n := by
  obtain ⟨i, hi', hs⟩ := Option.map_eq_some_iff.1 size_u8
  have e1 : (0 : Int) ≤ (lo : Int) ∧ (lo : Int) ≤ (n : Int) := ⟨by omega, by omega⟩
  have e2 : (0 : Int) ≤ (n : Int) ∧ (n : Int) ≤ (c : Int) := ⟨by omega, by omega⟩
  refine ⟨_, ?_, rfl⟩
  simp [Instr.sliceAt, Instr.slice, Instr.sliceBounds, Instr.sliceBound, run_underlying und_bytes, sizeOf, typeInfo, hi', hs, go_sem, e1, e2, h1, h3, subV]
theorem wpList_subTo (hw : Region.wanted o (yielded ops a.tmps) = true) (s y : Operand) (hop : o.op = Op.slice 24 s none (some y) none) {ad : Option Addr} {c hi : Nat} {l : List UInt8} (hs : a.eval s = .slice ad l.length c) (hy : a.eval y = .int .i64 (hi : Int))
    (h : BytesIn w (.slice ad l.length c) l) (h2 : hi ≤ l.length) (hK : ∀ u, BytesIn w u (l.take hi) → wpList Tryd.prog ops Q rest (a.put o.dst u) w) : wpList Tryd.prog ops Q (o :: rest) a w := by
  have hlc : l.length ≤ c := by obtain ⟨a', c', e, hc, _⟩ := h; cases e; exact hc
  obtain ⟨v, hr, rfl⟩ := run_subTo (ad := ad) h2 hlc w
  unfold wpList
  rw [if_pos hw]
  refine .inl (yields_wp (R := fun v w' => v = subV ad c 0 hi ∧ w' = w) ?_ fun v w' ⟨e1, e2⟩ => by rw [e1, e2]; exact hK _ (by have := sub_bytes (lo := 0) h (by omega) h2; simpa using this))
  unfold yields execOp
  simp only [hop, Option.map_some, Option.map_none, hs, hy, Sem.run_bind, hr, Result.andThen_ok, Sem.run_pure]
  exact ⟨rfl, rfl⟩
theorem wpList_subFrom (hw : Region.wanted o (yielded ops a.tmps) = true) (s x : Operand) (hop : o.op = Op.slice 24 s (some x) none none) {ad : Option Addr} {c lo : Nat} {l : List UInt8} (hs : a.eval s = .slice ad l.length c) (hx : a.eval x = .int .i64 (lo : Int))
    (h : BytesIn w (.slice ad l.length c) l) (h1 : lo ≤ l.length) (hK : ∀ u, BytesIn w u (l.drop lo) → wpList Tryd.prog ops Q rest (a.put o.dst u) w) : wpList Tryd.prog ops Q (o :: rest) a w := by
  have hlc : l.length ≤ c := by obtain ⟨a', c', e, hc, _⟩ := h; cases e; exact hc
  obtain ⟨v, hr, rfl⟩ := run_subFrom (ad := ad) h1 hlc w
  unfold wpList
  rw [if_pos hw]
  refine .inl (yields_wp (R := fun v w' => v = subV ad c lo l.length ∧ w' = w) ?_ fun v w' ⟨e1, e2⟩ => by rw [e1, e2]; exact hK _ (by have := sub_bytes (hi := l.length) h h1 (Nat.le_refl _); rwa [List.take_of_length_le (by simp)] at this))
  unfold yields execOp
  simp only [hop, Option.map_some, Option.map_none, hs, hx, Sem.run_bind, hr, Result.andThen_ok, Sem.run_pure]
  exact ⟨rfl, rfl⟩
end
end Go.Proofs.YtdkkbglfipkmdaaDoor

/- b[:hi] of bytes: where it lies. -/
namespace Go.Proofs.YtdkkbglfipkmdaaDoor
open Go Go.RowKit
theorem subV_low {b0 o0 c lo hi : Nat} : ∀ b o k c', subV (some ⟨b0, o0, none⟩) c lo hi = .slice (some ⟨b, o, none⟩) k c' → b = b0 := by
  intro b o k c' e
  unfold subV at e
  split at e
  · cases e; rfl
  · simp only [Option.map_some, Value.slice.injEq, Option.some.injEq] at e
    have := congrArg Addr.block e.1
    rw [Addr.add_lit] at this
    exact this.symm
theorem wpList_subToV {ops : Array Oper} {Q : Exit → Act → World → Prop} {a : Act} {w : World} {rest : List Oper} {o : Oper} (hw : Region.wanted o (yielded ops a.tmps) = true) (s y : Operand) (hop : o.op = Op.slice 24 s none (some y) none) {ad : Option Addr} {c hi : Nat} {l : List UInt8} (hs : a.eval s = .slice ad l.length c) (hy : a.eval y = .int .i64 (hi : Int))
    (h : BytesIn w (.slice ad l.length c) l) (h2 : hi ≤ l.length) (hK : BytesIn w (subV ad c 0 hi) (l.take hi) → wpList Tryd.prog ops Q rest (a.put o.dst (subV ad c 0 hi)) w) : wpList Tryd.prog ops Q (o :: rest) a w := by
  have hlc : l.length ≤ c := by obtain ⟨a', c', e, hc, _⟩ := h; cases e; exact hc
  obtain ⟨v, hr, rfl⟩ := run_subTo (ad := ad) h2 hlc w
  unfold wpList
  rw [if_pos hw]
  refine .inl (yields_wp (R := fun v w' => v = subV ad c 0 hi ∧ w' = w) ?_ fun v w' ⟨e1, e2⟩ => by
    rw [e1, e2]
    have := sub_bytes h (Nat.zero_le _) h2
    rw [List.drop_zero, Nat.sub_zero] at this
    exact hK this)
  unfold yields execOp
  simp only [hop, Option.map_some, Option.map_none, hs, hy, Sem.run_bind, hr, Result.andThen_ok, Sem.run_pure]
  exact ⟨rfl, rfl⟩
end Go.Proofs.YtdkkbglfipkmdaaDoor
