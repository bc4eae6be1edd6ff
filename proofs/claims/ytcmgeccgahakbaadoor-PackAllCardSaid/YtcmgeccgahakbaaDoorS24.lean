/- Batches that come in, read. -/
import Derived.Test.YtcmgeccgahakbaaDoorS23
import Derived.Test.YtcmgeccgahakbaaDoorS13
import Derived.Test.YtcmgeccgahakbaaDoorS11
set_option linter.unusedSimpArgs false
set_option linter.unusedVariables false
namespace Go.Proofs.YtcmgeccgahakbaaDoor
open Go Go.RowKit Go.ChangeShapes Go.WideShapes Go.ChangeAt

section
variable {H : Type} {enc : TypeId × Value → H} {W : World} {spare : Nat → Bool} {held : Bool} {n : Nat} {cs : List Value} {x : DataW H × List MemPlace}
theorem cellsA_Mut : Tryd.prog.cellsOf 64 = 4 := by kernel_rfl
theorem cellsA_Note : Tryd.prog.cellsOf 94 = 2 := by kernel_rfl
theorem cellsA_Muts : Tryd.prog.cellsOf 25 = 1 := by kernel_rfl
theorem cellsA_Notes : Tryd.prog.cellsOf 26 = 1 := by kernel_rfl
theorem cellsA_Ints : Tryd.prog.cellsOf 27 = 1 := by kernel_rfl
theorem cellsA_Batch : Tryd.prog.cellsOf 29 = 3 := by kernel_rfl
theorem fld_stringB {t : TypeId} {o : Nat} {y : DataW H × List MemPlace} {P : Program} (ht : P.underlying t = some .string) (hc : P.cellsOf t = 1) (h : DataW.trod enc P W 0 spare held n t ((cs.drop o).take (P.cellsOf t)) = some y) : ∃ s : ByteArray, cs[o]? = some (.string s) ∧ s.size ≤ maxLen := by
  obtain ⟨s, e, _, hs⟩ := DataW.trod_string ht h
  rw [hc] at e
  exact ⟨s, cell_of_cut e, hs⟩
set_option maxRecDepth 100000 in
theorem trod_partB (h : DataW.trod enc Tryd.prog W 0 spare held n 24 cs = some x) : ∃ p : Pa, cs = [.string p.key, .int .i64 p.gone, p.rv] ∧ RowsIn W p.rv p.ps := by
  obtain ⟨xs, m, _, _, hl, hlen, hff⟩ := DataW.trod_struct Tryd.underlying24 h
  rw [cellsA_Part] at hl
  match xs, hlen with
  | [y0, y1, y2], _ =>
    obtain ⟨s, e0⟩ := fld_string Tryd.underlying9 cells_string (hff 0 _ rfl)
    obtain ⟨i, e1, _⟩ := fld_int Tryd.underlying3 cells_int (hff 1 _ rfl)
    obtain ⟨u, ps, e2, hin⟩ := trod_rows (hff 2 _ rfl)
    have e2' : (cs.drop 2).take (Tryd.prog.cellsOf 22) = _ := e2
    rw [cellsA_Rows] at e2'
    exact ⟨⟨s, i, u, ps⟩, list3 hl e0 e1 (cell_of_cut e2'), hin⟩
set_option maxRecDepth 100000 in
theorem trod_mut (h : DataW.trod enc Tryd.prog W 0 spare held n 64 cs = some x) : ∃ m : Mt, cs = (mt4 m).toList ∧ (RowsIn W m.pa.rv m.pa.ps ∧ m.table.size ≤ maxLen) := by
  obtain ⟨xs, m, _, _, hl, hlen, hff⟩ := DataW.trod_struct Tryd.underlying64 h
  rw [cellsA_Mut] at hl
  match xs, hlen with
  | [y0, y1], _ =>
    obtain ⟨s, e0, hs⟩ := fld_stringB Tryd.underlying9 cells_string (hff 0 _ rfl)
    obtain ⟨p, e1, hin⟩ := trod_partB (hff 1 _ rfl)
    have e1' : (cs.drop 1).take (Tryd.prog.cellsOf 24) = _ := e1
    rw [cellsA_Part] at e1'
    refine ⟨⟨s, p⟩, ?_, hin, hs⟩
    match cs, hl with
    | [a, b, c, d], _ =>
      simp at e0 e1'
      simp [mt4, e0, e1']
set_option maxRecDepth 100000 in
theorem trod_muts (h : DataW.trod enc Tryd.prog W 0 spare held n 25 cs = some x) : ∃ v M, cs = [v] ∧ MtsIn W v M ∧ ∀ m ∈ M, m.table.size ≤ maxLen := by
  obtain ⟨v, rfl, l, h, hc⟩ := read_slice Tryd.underlying25 cellsA_Mut (by decide) (fun m : Mt => (mt4 m).toList) _ (fun _ _ _ h => trod_mut h) h
  exact ⟨v, l, rfl, ⟨h, fun m hm => (hc m hm).1⟩, fun m hm => (hc m hm).2⟩
set_option maxRecDepth 100000 in
theorem trod_noteB (h : DataW.trod enc Tryd.prog W 0 spare held n 94 cs = some x) : ∃ q : Nt, cs = q.cells ∧ q.body.size ≤ maxLen := by
  obtain ⟨xs, m, _, _, hl, hlen, hff⟩ := DataW.trod_struct Tryd.underlying94 h
  rw [cellsA_Note] at hl
  match xs, hlen with
  | [y0, y1], _ =>
    obtain ⟨i, e0, _⟩ := fld_int Tryd.underlying3 cells_int (hff 0 _ rfl)
    obtain ⟨s, e1, hs⟩ := fld_stringB Tryd.underlying9 cells_string (hff 1 _ rfl)
    refine ⟨⟨i, s⟩, ?_, hs⟩
    match cs, hl with
    | [a, b], _ =>
      simp at e0 e1
      simp [Nt.cells, e0, e1]
set_option maxRecDepth 100000 in
theorem trod_notesB (h : DataW.trod enc Tryd.prog W 0 spare held n 26 cs = some x) : ∃ v A, cs = [v] ∧ NtsIn W v A ∧ ∀ a ∈ A, a.body.size ≤ maxLen := by
  obtain ⟨v, rfl, l, h, hc⟩ := read_slice Tryd.underlying26 cellsA_Note (by decide) Nt.cells _ (fun _ _ _ h => trod_noteB h) h
  exact ⟨v, l, rfl, h, hc⟩
set_option maxRecDepth 100000 in
theorem trod_intsB (h : DataW.trod enc Tryd.prog W 0 spare held n 27 cs = some x) : ∃ v l, cs = [v] ∧ IntsIn W v .i64 l := by
  obtain ⟨v, rfl, l, h, _⟩ := read_slice Tryd.underlying27 cells_int (by decide) (fun q : Int => [Value.int .i64 q]) (fun _ => True) (fun _ _ _ h => by
    obtain ⟨i, e, _, _⟩ := DataW.trod_int Tryd.underlying3 h
    exact ⟨i, e, trivial⟩) h
  refine ⟨v, l, rfl, ?_⟩
  unfold IntsIn kcells
  rw [show l.map (Value.int .i64) = l.flatMap (fun q : Int => [Value.int .i64 q]) by rw [List.map_eq_flatMap]]
  exact h
set_option maxRecDepth 100000 in
/-- A batch that comes in. -/
theorem read_batch {base : Nat} {v : Value} {d : DataW H} {p : List MemPlace} (hv : Value.okWide Tryd.prog W .any base 29 v)
    (h : DataW.Trod enc Tryd.prog W 0 (fun _ => true) true 29 v d p) : ∃ (vm va vd : Value) (M : List Mt) (A : List Nt) (D : List Int), v = .agg #[vm, va, vd] ∧ MtsIn W vm M ∧ NtsIn W va A ∧ IntsIn W vd .i64 D ∧ (∀ m ∈ M, m.table.size ≤ maxLen) ∧ ∀ a ∈ A, a.body.size ≤ maxLen := by
  obtain ⟨cs, rfl, hsz⟩ := okWide_struct Tryd.underlying29 hv
  obtain ⟨fuel, hf⟩ := h
  have hf : DataW.trod enc Tryd.prog W 0 (fun _ => true) true fuel 29 cs.toList = some (d, p) := hf
  obtain ⟨xs, m, _, _, hl, hlen, hff⟩ := DataW.trod_struct Tryd.underlying29 hf
  rw [cellsA_Batch] at hl
  match xs, hlen with
  | [y0, y1, y2], _ =>
    obtain ⟨vm, M, e0, hM, hMb⟩ := trod_muts (hff 0 _ rfl)
    obtain ⟨va, A, e1, hA, hAb⟩ := trod_notesB (hff 1 _ rfl)
    obtain ⟨vd, D, e2, hD⟩ := trod_intsB (hff 2 _ rfl)
    have e0' : (cs.toList.drop 0).take (Tryd.prog.cellsOf 25) = _ := e0
    have e1' : (cs.toList.drop 1).take (Tryd.prog.cellsOf 26) = _ := e1
    have e2' : (cs.toList.drop 2).take (Tryd.prog.cellsOf 27) = _ := e2
    rw [cellsA_Muts] at e0'
    rw [cellsA_Notes] at e1'
    rw [cellsA_Ints] at e2'
    exact ⟨vm, va, vd, M, A, D, congrArg Value.agg (Array.toList_inj.1 (list3 hl (cell_of_cut e0') (cell_of_cut e1') (cell_of_cut e2'))), hM, hA, hD, hMb, hAb⟩
end
end Go.Proofs.YtcmgeccgahakbaaDoor
