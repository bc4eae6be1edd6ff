/- A configuration, a list of partitions, a list of texts that come in, read. -/
import Derived.Test.YtcmgeccgahakbaaDoorR25
import Derived.Test.YtcmgeccgahakbaaDoorR12
import Derived.Test.YtcmgeccgahakbaaDoorR4
set_option linter.unusedSimpArgs false
set_option linter.unusedVariables false
namespace Go.Proofs.YtcmgeccgahakbaaDoor
open Go Go.RowKit Go.ChangeShapes Go.WideShapes Go.ChangeAt

section
variable {H : Type} {enc : TypeId × Value → H} {W : World} {spare : Nat → Bool} {held : Bool} {n : Nat} {cs : List Value} {x : DataW H × List MemPlace}
theorem cellsA_Conf : Tryd.prog.cellsOf 67 = 3 := by kernel_rfl
set_option maxRecDepth 100000 in
theorem trod_partT (h : DataW.trod enc Tryd.prog W 0 spare held n 24 cs = some x) : ∃ p : Pa, cs = [.string p.key, .int .i64 p.gone, p.rv] ∧ RowsIn W p.rv p.ps := by
  obtain ⟨xs, m, _, _, hl, hlen, hff⟩ := DataW.trod_struct Tryd.underlying24 h
  rw [cellsA_Part] at hl
  match xs, hlen with
  | [y0, y1, y2], _ =>
    obtain ⟨s, e0⟩ := fld_string Tryd.underlying9 cells_string (hff 0 _ rfl)
    obtain ⟨i, e1, _⟩ := fld_int Tryd.underlying3 cells_int (hff 1 _ rfl)
    obtain ⟨u, ps, e2, hin⟩ := trod_rows (hff 2 _ rfl)
    have e2' : (cs.drop 2).take (Tryd.prog.cellsOf 22) = _ := e2
    rw [cellsA_Rows] at e2'
    exact ⟨⟨s, i, u, ps⟩, list3 hl e0 e1 (cell_of_cut e2'), hin⟩
theorem paCells_flat (l : List Pa) : paCells l = l.flatMap fun p => [.string p.key, .int .i64 p.gone, p.rv] := by
  induction l with
  | nil => rfl
  | cons c l ih => simp [paCells, ih]
set_option maxRecDepth 100000 in
/-- A list of partitions that comes in. -/
theorem read_parts {base : Nat} {v : Value} {d : DataW H} {p : List MemPlace} (hv : Value.okWide Tryd.prog W .any base 68 v)
    (h : DataW.Trod enc Tryd.prog W 0 (fun _ => true) true 68 v d p) : ∃ L : List Pa, PartsIn W v L := by
  obtain ⟨a, len, cap, rfl⟩ := okWide_slice Tryd.underlying68 hv
  obtain ⟨fuel, hf⟩ := h
  obtain ⟨v', e, l, h1, h2⟩ := read_slice Tryd.underlying68 cellsA_Part (by decide) (fun p : Pa => [.string p.key, .int .i64 p.gone, p.rv]) _ (fun _ _ _ h => trod_partT h) hf
  simp [Value.cells] at e
  subst e
  exact ⟨l, by rw [paCells_flat]; exact h1, h2⟩
set_option maxRecDepth 100000 in
/-- A list of texts that comes in. -/
theorem read_ts {base : Nat} {v : Value} {d : DataW H} {p : List MemPlace} (hv : Value.okWide Tryd.prog W .any base 52 v)
    (h : DataW.Trod enc Tryd.prog W 0 (fun _ => true) true 52 v d p) : ∃ l : List ByteArray, TsIn W v l := by
  obtain ⟨a, len, cap, rfl⟩ := okWide_slice Tryd.underlying52 hv
  obtain ⟨fuel, hf⟩ := h
  obtain ⟨v', e, l, h1, _⟩ := read_slice Tryd.underlying52 cells_string (by decide) (fun s : ByteArray => [Value.string s]) (fun _ => True) (fun _ _ _ h => by
    obtain ⟨s, e, _, _⟩ := DataW.trod_string Tryd.underlying9 h
    exact ⟨s, e, trivial⟩) hf
  simp [Value.cells] at e
  subst e
  refine ⟨l, ?_⟩
  unfold TsIn tsC
  rw [List.map_eq_flatMap]
  exact h1
set_option maxRecDepth 100000 in
/-- A configuration that comes in. -/
theorem read_conf {base : Nat} {v : Value} {d : DataW H} {p : List MemPlace} (hv : Value.okWide Tryd.prog W .any base 67 v)
    (h : DataW.Trod enc Tryd.prog W 0 (fun _ => true) true 67 v d p) : ∃ n c t : Int, v = .agg #[.int .i64 n, .int .i64 c, .int .i64 t] := by
  obtain ⟨cs, rfl, hsz⟩ := okWide_struct Tryd.underlying67 hv
  obtain ⟨fuel, hf⟩ := h
  have hf : DataW.trod enc Tryd.prog W 0 (fun _ => true) true fuel 67 cs.toList = some (d, p) := hf
  obtain ⟨xs, m, _, _, hl, hlen, hff⟩ := DataW.trod_struct Tryd.underlying67 hf
  rw [cellsA_Conf] at hl
  match xs, hlen with
  | [y0, y1, y2], _ =>
    obtain ⟨i, e0, _⟩ := fld_int Tryd.underlying3 cells_int (hff 0 _ rfl)
    obtain ⟨j, e1, _⟩ := fld_int Tryd.underlying3 cells_int (hff 1 _ rfl)
    obtain ⟨k, e2, _⟩ := fld_int Tryd.underlying3 cells_int (hff 2 _ rfl)
    exact ⟨i, j, k, congrArg Value.agg (Array.toList_inj.1 (list3 hl e0 e1 e2))⟩
end
end Go.Proofs.YtcmgeccgahakbaaDoor
