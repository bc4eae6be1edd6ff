/- Slices and structs that come in, read. -/
import Derived.Test.YtfagnbofnaoncaaDoorQ5
import Derived.Test.YtfagnbofnaoncaaDoorProg
import Derived.Test.YtfagnbofnaoncaaDoorQ7
import Derived.Test.YtfagnbofnaoncaaDoorQ15
import Derived.Test.YtfagnbofnaoncaaDoorQ10
set_option linter.unusedSimpArgs false
set_option linter.unusedVariables false
namespace Go.Proofs.YtfagnbofnaoncaaDoor
open Go Go.RowKit Go.ChangeShapes Go.WideShapes Go.ChangeAt

theorem flat_get {α β : Type} {f : α → List β} {n : Nat} : ∀ {l : List α} {j : Nat} {u : β}, (∀ a ∈ l, (f a).length = n) → (l.flatMap f)[j]? = some u → ∃ (k : Nat) (h : k < l.length) (r : Nat), r < n ∧ j = k * n + r ∧ (f l[k])[r]? = some u
  | [], j, u, _, h => by simp at h
  | a :: l, j, u, hn, h => by
    have ha := hn a (List.mem_cons_self ..)
    rw [List.flatMap_cons] at h
    by_cases hj : j < n
    · rw [List.getElem?_append_left (by omega)] at h
      exact ⟨0, by simp, j, hj, by omega, h⟩
    · rw [List.getElem?_append_right (by omega), ha] at h
      obtain ⟨k, hk, r, hr, e, hu⟩ := flat_get (fun b hb => hn b (List.mem_cons_of_mem _ hb)) h
      exact ⟨k + 1, by simpa using hk, r, hr, by rw [Nat.succ_mul]; omega, by simpa using hu⟩
theorem list_of {α : Type} {p : Nat → α → Prop} : ∀ n, (∀ i, i < n → ∃ a, p i a) → ∃ l : List α, l.length = n ∧ ∀ i (h : i < l.length), p i l[i]
  | 0, _ => ⟨[], rfl, fun i h => absurd h (Nat.not_lt_zero _)⟩
  | n + 1, h => by
    obtain ⟨l, hl, hp⟩ := list_of n (fun i hi => h i (by omega))
    obtain ⟨a, ha⟩ := h n (by omega)
    refine ⟨l ++ [a], by simp [hl], fun i hi => ?_⟩
    by_cases hlt : i < l.length
    · rw [List.getElem_append_left hlt]; exact hp i hlt
    · have e : i = l.length := by simp at hi; omega
      subst e
      rw [List.getElem_append_right (Nat.le_refl _)]
      simpa [hl] using ha

section
variable {H : Type} {enc : TypeId × Value → H} {P : Program} {W : World} {spare : Nat → Bool} {held : Bool} {n : Nat} {cs : List Value} {x : DataW H × List MemPlace}
theorem read_slice {α : Type} {T e : TypeId} {size fuel : Nat} (ht : P.underlying T = some (.slice e)) (hs : P.cellsOf e = size) (hpos : 0 < size) (f : α → List Value) (Q : α → Prop)
    (h1 : ∀ n cs x, DataW.trod enc P W 0 spare held n e cs = some x → ∃ a, cs = f a ∧ Q a) (h : DataW.trod enc P W 0 spare held fuel T cs = some x) :
    ∃ v, cs = [v] ∧ ∃ l : List α, SliceIn W v l.length (l.flatMap f) ∧ ∀ a ∈ l, Q a := by
  rcases DataW.trod_slice ht h with ⟨rfl, _⟩ | ⟨a, len, cap, elems, rest, n, _, rfl, _, _, hl, hm, hlen, hel, _⟩
  · exact ⟨_, rfl, [], SliceIn.nil W, nofun⟩
  · have each : ∀ i, i < len → ∃ b : α, W.cells? 0 (a.add (i * size)) size = some (f b) ∧ Q b := by
      intro i hi
      have := hel i hi
      rw [List.getElem?_eq_getElem (by omega), hs, Option.bind_eq_some_iff] at this
      obtain ⟨cs', h2, h3⟩ := this
      obtain ⟨b, rfl, hq⟩ := h1 _ _ _ h3
      exact ⟨b, h2, hq⟩
    obtain ⟨l, hll, hp⟩ := list_of len each
    have flen : ∀ b ∈ l, (f b).length = size := by
      intro b hb
      obtain ⟨i, hi, rfl⟩ := List.getElem_of_mem hb
      exact (World.cells?_some (hp i hi).1).2.1
    refine ⟨_, rfl, l, ⟨some a, cap, by rw [hll], by rw [hll]; exact hl, hm, nofun, fun j u hj => ?_⟩, fun b hb => ?_⟩
    · obtain ⟨k, hk, r, hr, rfl, hu⟩ := flat_get flen hj
      have h2 := (World.cells?_some (hp k hk).1).2.2 r hr
      rw [hu] at h2
      obtain ⟨b, o, s⟩ := a
      cases s with
      | none =>
        rw [Addr.add_lit, Addr.add_lit] at h2
        exact ⟨b, o, rfl, by rw [← Nat.add_assoc]; exact h2⟩
      | some s =>
        exfalso
        have h0 := (World.cells?_some (hp 0 (by omega)).1).2.2 0 hpos
        rw [Nat.zero_mul] at h0
        simp only [Addr.add, if_pos] at h0
        unfold World.cell? at h0
        have hf0 : (f l[0])[0]? ≠ none := by
          rw [Ne, List.getElem?_eq_none_iff, flen _ (List.getElem_mem _)]
          omega
        split at h0 <;> simp at h0 <;> exact hf0 (by simp [← h0])
    · obtain ⟨i, hi, rfl⟩ := List.getElem_of_mem hb
      exact (hp i hi).2
theorem fld_string {t : TypeId} {o : Nat} {y : DataW H × List MemPlace} (ht : P.underlying t = some .string) (hc : P.cellsOf t = 1) (h : DataW.trod enc P W 0 spare held n t ((cs.drop o).take (P.cellsOf t)) = some y) : ∃ s : ByteArray, cs[o]? = some (.string s) := by
  obtain ⟨s, e, _⟩ := DataW.trod_string ht h
  rw [hc] at e
  exact ⟨s, cell_of_cut e⟩
theorem fld_int {t : TypeId} {o : Nat} {y : DataW H × List MemPlace} {k : IntKind} (ht : P.underlying t = some (.int k)) (hc : P.cellsOf t = 1) (h : DataW.trod enc P W 0 spare held n t ((cs.drop o).take (P.cellsOf t)) = some y) : ∃ s : Int, cs[o]? = some (.int k s) ∧ (Lit.int k s).wf = true := by
  obtain ⟨s, e, _, hw⟩ := DataW.trod_int ht h
  rw [hc] at e
  exact ⟨s, cell_of_cut e, hw⟩
theorem fld_bool {t : TypeId} {o : Nat} {y : DataW H × List MemPlace} (ht : P.underlying t = some .bool) (hc : P.cellsOf t = 1) (h : DataW.trod enc P W 0 spare held n t ((cs.drop o).take (P.cellsOf t)) = some y) : ∃ s : Bool, cs[o]? = some (.bool s) := by
  obtain ⟨s, e, _⟩ := DataW.trod_bool ht h
  rw [hc] at e
  exact ⟨s, cell_of_cut e⟩
theorem list3 {α : Type} {l : List α} {a b c : α} (h : l.length = 3) (h0 : l[0]? = some a) (h1 : l[1]? = some b) (h2 : l[2]? = some c) : l = [a, b, c] := by
  match l, h with
  | [x, y, z], _ => simp at h0 h1 h2; rw [h0, h1, h2]
theorem list4 {α : Type} {l : List α} {a b c d : α} (h : l.length = 4) (h0 : l[0]? = some a) (h1 : l[1]? = some b) (h2 : l[2]? = some c) (h3 : l[3]? = some d) : l = [a, b, c, d] := by
  match l, h with
  | [x, y, z, u], _ => simp at h0 h1 h2 h3; rw [h0, h1, h2, h3]
theorem list5 {α : Type} {l : List α} {a b c d e : α} (h : l.length = 5) (h0 : l[0]? = some a) (h1 : (l.drop 1).take 4 = [b, c, d, e]) : l = [a, b, c, d, e] := by
  match l, h with
  | [x, y, z, u, v], _ => simp at h0 h1; simp [h0, h1]
theorem list8 {α : Type} {l : List α} {a b c d e f g i : α} (h : l.length = 8) (h0 : l[0]? = some a) (h1 : (l.drop 1).take 4 = [b, c, d, e]) (h5 : l[5]? = some f) (h6 : l[6]? = some g) (h7 : l[7]? = some i) : l = [a, b, c, d, e, f, g, i] := by
  match l, h with
  | [x, y, z, u, v, p, q, r], _ => simp at h0 h1 h5 h6 h7; simp [h0, h1, h5, h6, h7]
end
theorem cells_string : Tryd.prog.cellsOf 9 = 1 := by kernel_rfl
theorem cells_int : Tryd.prog.cellsOf 3 = 1 := by kernel_rfl
theorem cells_bool : Tryd.prog.cellsOf 4 = 1 := by kernel_rfl
end Go.Proofs.YtfagnbofnaoncaaDoor

/- Rows and partitions that come in, read. -/
namespace Go.Proofs.YtfagnbofnaoncaaDoor
open Go Go.RowKit Go.ChangeShapes Go.WideShapes Go.ChangeAt

section
variable {H : Type} {enc : TypeId × Value → H} {W : World} {spare : Nat → Bool} {held : Bool} {n : Nat} {cs : List Value} {x : DataW H × List MemPlace}
theorem cellsA_Cell : Tryd.prog.cellsOf 85 = 4 := by kernel_rfl
theorem cellsA_Col : Tryd.prog.cellsOf 100 = 5 := by kernel_rfl
theorem cellsA_Row : Tryd.prog.cellsOf 88 = 8 := by kernel_rfl
theorem cellsA_Part : Tryd.prog.cellsOf 39 = 3 := by kernel_rfl
theorem cellsA_Cols : Tryd.prog.cellsOf 86 = 1 := by kernel_rfl
theorem cellsA_Rows : Tryd.prog.cellsOf 37 = 1 := by kernel_rfl
theorem trod_cell (h : DataW.trod enc Tryd.prog W 0 spare held n 85 cs = some x) : ∃ c : Cl, cs = [.string c.val, .bool c.dead, .int .i64 c.at_, .int .i64 c.fin] := by
  obtain ⟨xs, m, _, _, hl, hlen, hf⟩ := DataW.trod_struct Tryd.underlying85 h
  rw [cellsA_Cell] at hl
  match xs, hlen with
  | [y0, y1, y2, y3], _ =>
    obtain ⟨s, e0⟩ := fld_string Tryd.underlying9 cells_string (hf 0 _ rfl)
    obtain ⟨b, e1⟩ := fld_bool Tryd.underlying4 cells_bool (hf 1 _ rfl)
    obtain ⟨i, e2, _⟩ := fld_int Tryd.underlying3 cells_int (hf 2 _ rfl)
    obtain ⟨j, e3, _⟩ := fld_int Tryd.underlying3 cells_int (hf 3 _ rfl)
    exact ⟨⟨s, b, i, j⟩, list4 hl e0 e1 e2 e3⟩
theorem trod_col (h : DataW.trod enc Tryd.prog W 0 spare held n 100 cs = some x) : ∃ c : Co, cs = [.string c.name, .string c.cell.val, .bool c.cell.dead, .int .i64 c.cell.at_, .int .i64 c.cell.fin] := by
  obtain ⟨xs, m, _, _, hl, hlen, hf⟩ := DataW.trod_struct Tryd.underlying100 h
  rw [cellsA_Col] at hl
  match xs, hlen with
  | [y0, y1], _ =>
    obtain ⟨s, e0⟩ := fld_string Tryd.underlying9 cells_string (hf 0 _ rfl)
    obtain ⟨c, e1⟩ := trod_cell (hf 1 _ rfl)
    have e1' : (cs.drop 1).take (Tryd.prog.cellsOf 85) = _ := e1
    rw [cellsA_Cell] at e1'
    exact ⟨⟨s, c⟩, list5 hl e0 e1'⟩
theorem coCells_flat (l : List Co) : coCells l = l.flatMap fun c => [.string c.name, .string c.cell.val, .bool c.cell.dead, .int .i64 c.cell.at_, .int .i64 c.cell.fin] := by
  induction l with
  | nil => rfl
  | cons c l ih => simp [coCells, ih]
theorem roCells_flat (l : List (Ro × Value)) : roCells l = l.flatMap fun p => [.string p.1.key, .string p.1.live.val, .bool p.1.live.dead, .int .i64 p.1.live.at_, .int .i64 p.1.live.fin, .int .i64 p.1.gone, .int .i64 p.1.shade, p.2] := by
  induction l with
  | nil => rfl
  | cons c l ih => simp [roCells, ih]
theorem trod_cols (h : DataW.trod enc Tryd.prog W 0 spare held n 86 cs = some x) : ∃ v l, cs = [v] ∧ ColsIn W v l := by
  obtain ⟨v, rfl, l, h, _⟩ := read_slice Tryd.underlying86 cellsA_Col (by decide) _ (fun _ => True) (fun _ _ _ h => let ⟨c, e⟩ := trod_col h; ⟨c, e, trivial⟩) h
  exact ⟨v, l, rfl, by unfold ColsIn; rw [coCells_flat]; exact h⟩
/-- A row's cells, its columns in memory. -/
theorem trod_row (h : DataW.trod enc Tryd.prog W 0 spare held n 88 cs = some x) : ∃ p : Ro × Value, cs = [.string p.1.key, .string p.1.live.val, .bool p.1.live.dead, .int .i64 p.1.live.at_, .int .i64 p.1.live.fin, .int .i64 p.1.gone, .int .i64 p.1.shade, p.2] ∧ ColsIn W p.2 p.1.cols := by
  obtain ⟨xs, m, _, _, hl, hlen, hf⟩ := DataW.trod_struct Tryd.underlying88 h
  rw [cellsA_Row] at hl
  match xs, hlen with
  | [y0, y1, y2, y3, y4], _ =>
    obtain ⟨s, e0⟩ := fld_string Tryd.underlying9 cells_string (hf 0 _ rfl)
    obtain ⟨c, e1⟩ := trod_cell (hf 1 _ rfl)
    obtain ⟨i, e2, _⟩ := fld_int Tryd.underlying3 cells_int (hf 2 _ rfl)
    obtain ⟨j, e3, _⟩ := fld_int Tryd.underlying3 cells_int (hf 3 _ rfl)
    obtain ⟨v, l, e4, hin⟩ := trod_cols (hf 4 _ rfl)
    have e1' : (cs.drop 1).take (Tryd.prog.cellsOf 85) = _ := e1
    have e4' : (cs.drop 7).take (Tryd.prog.cellsOf 86) = _ := e4
    rw [cellsA_Cell] at e1'
    rw [cellsA_Cols] at e4'
    exact ⟨(⟨s, c, i, j, l⟩, v), list8 hl e0 e1' e2 e3 (cell_of_cut e4'), hin⟩
theorem trod_rows (h : DataW.trod enc Tryd.prog W 0 spare held n 37 cs = some x) : ∃ v ps, cs = [v] ∧ RowsIn W v ps := by
  obtain ⟨v, rfl, l, h, hc⟩ := read_slice Tryd.underlying37 cellsA_Row (by decide) _ _ (fun _ _ _ h => trod_row h) h
  exact ⟨v, l, rfl, by rw [roCells_flat]; exact h, hc⟩
set_option maxRecDepth 100000 in
/-- A row that comes in. -/
theorem read_row {base : Nat} {v : Value} {d : DataW H} {p : List MemPlace} (hv : Value.okWide Tryd.prog W .any base 88 v)
    (h : DataW.Trod enc Tryd.prog W 0 (fun _ => true) true 88 v d p) : ∃ (r : Ro) (u : Value), v = (.agg #[.string r.key, .string r.live.val, .bool r.live.dead, .int .i64 r.live.at_, .int .i64 r.live.fin, .int .i64 r.gone, .int .i64 r.shade, u]) ∧ ColsIn W u r.cols := by
  obtain ⟨cs, rfl, hsz⟩ := okWide_struct Tryd.underlying88 hv
  obtain ⟨fuel, hf⟩ := h
  obtain ⟨⟨r, u⟩, e, hin⟩ := trod_row hf
  exact ⟨r, u, congrArg Value.agg (Array.toList_inj.1 e), hin⟩
set_option maxRecDepth 100000 in
/-- A partition that comes in. -/
theorem read_part {base : Nat} {v : Value} {d : DataW H} {p : List MemPlace} (hv : Value.okWide Tryd.prog W .any base 39 v)
    (h : DataW.Trod enc Tryd.prog W 0 (fun _ => true) true 39 v d p) : ∃ (k : ByteArray) (g : Int) (u : Value) (ps : List (Ro × Value)), v = .agg #[.string k, .int .i64 g, u] ∧ RowsIn W u ps := by
  obtain ⟨cs, rfl, hsz⟩ := okWide_struct Tryd.underlying39 hv
  obtain ⟨fuel, hf⟩ := h
  have hf : DataW.trod enc Tryd.prog W 0 (fun _ => true) true fuel 39 cs.toList = some (d, p) := hf
  obtain ⟨xs, m, _, _, hl, hlen, hff⟩ := DataW.trod_struct Tryd.underlying39 hf
  rw [cellsA_Part] at hl
  match xs, hlen with
  | [y0, y1, y2], _ =>
    obtain ⟨s, e0⟩ := fld_string Tryd.underlying9 cells_string (hff 0 _ rfl)
    obtain ⟨i, e1, _⟩ := fld_int Tryd.underlying3 cells_int (hff 1 _ rfl)
    obtain ⟨u, ps, e2, hin⟩ := trod_rows (hff 2 _ rfl)
    have e2' : (cs.toList.drop 2).take (Tryd.prog.cellsOf 37) = _ := e2
    rw [cellsA_Rows] at e2'
    exact ⟨s, i, u, ps, congrArg Value.agg (Array.toList_inj.1 (list3 hl e0 e1 (cell_of_cut e2'))), hin⟩
end
end Go.Proofs.YtfagnbofnaoncaaDoor

/- Batches that come in, read. (what a smaller cut has) -/
namespace Go.Proofs.YtfagnbofnaoncaaDoor
open Go Go.RowKit Go.ChangeShapes Go.WideShapes Go.ChangeAt

section
variable {H : Type} {enc : TypeId × Value → H} {W : World} {spare : Nat → Bool} {held : Bool} {n : Nat} {cs : List Value} {x : DataW H × List MemPlace}
theorem cellsA_Mut : Tryd.prog.cellsOf 42 = 4 := by kernel_rfl
theorem cellsA_Muts : Tryd.prog.cellsOf 22 = 1 := by kernel_rfl
theorem cellsA_Ints : Tryd.prog.cellsOf 35 = 1 := by kernel_rfl
theorem fld_stringB {t : TypeId} {o : Nat} {y : DataW H × List MemPlace} {P : Program} (ht : P.underlying t = some .string) (hc : P.cellsOf t = 1) (h : DataW.trod enc P W 0 spare held n t ((cs.drop o).take (P.cellsOf t)) = some y) : ∃ s : ByteArray, cs[o]? = some (.string s) ∧ s.size ≤ maxLen := by
  obtain ⟨s, e, _, hs⟩ := DataW.trod_string ht h
  rw [hc] at e
  exact ⟨s, cell_of_cut e, hs⟩
set_option maxRecDepth 100000 in
theorem trod_partB (h : DataW.trod enc Tryd.prog W 0 spare held n 39 cs = some x) : ∃ p : Pa, cs = [.string p.key, .int .i64 p.gone, p.rv] ∧ RowsIn W p.rv p.ps := by
  obtain ⟨xs, m, _, _, hl, hlen, hff⟩ := DataW.trod_struct Tryd.underlying39 h
  rw [cellsA_Part] at hl
  match xs, hlen with
  | [y0, y1, y2], _ =>
    obtain ⟨s, e0⟩ := fld_string Tryd.underlying9 cells_string (hff 0 _ rfl)
    obtain ⟨i, e1, _⟩ := fld_int Tryd.underlying3 cells_int (hff 1 _ rfl)
    obtain ⟨u, ps, e2, hin⟩ := trod_rows (hff 2 _ rfl)
    have e2' : (cs.drop 2).take (Tryd.prog.cellsOf 37) = _ := e2
    rw [cellsA_Rows] at e2'
    exact ⟨⟨s, i, u, ps⟩, list3 hl e0 e1 (cell_of_cut e2'), hin⟩
set_option maxRecDepth 100000 in
theorem trod_mut (h : DataW.trod enc Tryd.prog W 0 spare held n 42 cs = some x) : ∃ m : Mt, cs = (mt4 m).toList ∧ (RowsIn W m.pa.rv m.pa.ps ∧ m.table.size ≤ maxLen) := by
  obtain ⟨xs, m, _, _, hl, hlen, hff⟩ := DataW.trod_struct Tryd.underlying42 h
  rw [cellsA_Mut] at hl
  match xs, hlen with
  | [y0, y1], _ =>
    obtain ⟨s, e0, hs⟩ := fld_stringB Tryd.underlying9 cells_string (hff 0 _ rfl)
    obtain ⟨p, e1, hin⟩ := trod_partB (hff 1 _ rfl)
    have e1' : (cs.drop 1).take (Tryd.prog.cellsOf 39) = _ := e1
    rw [cellsA_Part] at e1'
    refine ⟨⟨s, p⟩, ?_, hin, hs⟩
    match cs, hl with
    | [a, b, c, d], _ =>
      simp at e0 e1'
      simp [mt4, e0, e1']
set_option maxRecDepth 100000 in
theorem trod_muts (h : DataW.trod enc Tryd.prog W 0 spare held n 22 cs = some x) : ∃ v M, cs = [v] ∧ MtsIn W v M ∧ ∀ m ∈ M, m.table.size ≤ maxLen := by
  obtain ⟨v, rfl, l, h, hc⟩ := read_slice Tryd.underlying22 cellsA_Mut (by decide) (fun m : Mt => (mt4 m).toList) _ (fun _ _ _ h => trod_mut h) h
  exact ⟨v, l, rfl, ⟨h, fun m hm => (hc m hm).1⟩, fun m hm => (hc m hm).2⟩
set_option maxRecDepth 100000 in
theorem trod_intsB (h : DataW.trod enc Tryd.prog W 0 spare held n 35 cs = some x) : ∃ v l, cs = [v] ∧ IntsIn W v .i64 l := by
  obtain ⟨v, rfl, l, h, _⟩ := read_slice Tryd.underlying35 cells_int (by decide) (fun q : Int => [Value.int .i64 q]) (fun _ => True) (fun _ _ _ h => by
    obtain ⟨i, e, _, _⟩ := DataW.trod_int Tryd.underlying3 h
    exact ⟨i, e, trivial⟩) h
  refine ⟨v, l, rfl, ?_⟩
  unfold IntsIn kcells
  rw [show l.map (Value.int .i64) = l.flatMap (fun q : Int => [Value.int .i64 q]) by rw [List.map_eq_flatMap]]
  exact h
end
end Go.Proofs.YtfagnbofnaoncaaDoor

/- Messages that come in, read. -/
namespace Go.Proofs.YtfagnbofnaoncaaDoor
open Go Go.RowKit Go.ChangeShapes Go.WideShapes Go.ChangeAt

section
variable {H : Type} {enc : TypeId × Value → H} {W : World} {spare : Nat → Bool} {held : Bool} {n : Nat} {cs : List Value} {x : DataW H × List MemPlace}
theorem cellsA_Strs : Tryd.prog.cellsOf 23 = 1 := by kernel_rfl
theorem cellsA_Msg : Tryd.prog.cellsOf 25 = 7 := by kernel_rfl
set_option maxRecDepth 100000 in
theorem trod_texts (h : DataW.trod enc Tryd.prog W 0 spare held n 23 cs = some x) : ∃ v l, cs = [v] ∧ TxIn W v l ∧ ∀ s ∈ l, s.size ≤ maxLen := by
  obtain ⟨v, rfl, l, h, hc⟩ := read_slice Tryd.underlying23 cells_string (by decide) (fun q : ByteArray => [Value.string q]) (fun q => q.size ≤ maxLen) (fun _ _ _ h => by
    obtain ⟨s, e, _, hs⟩ := DataW.trod_string Tryd.underlying9 h
    exact ⟨s, e, hs⟩) h
  refine ⟨v, l, rfl, ?_, hc⟩
  unfold TxIn
  rw [show l.map Value.string = l.flatMap (fun q : ByteArray => [Value.string q]) by rw [List.map_eq_flatMap]]
  exact h
theorem list7 {α : Type} {l : List α} {a b c d e f g : α} (h : l.length = 7) (h0 : l[0]? = some a) (h1 : l[1]? = some b) (h2 : l[2]? = some c) (h3 : l[3]? = some d) (h4 : l[4]? = some e) (h5 : l[5]? = some f) (h6 : l[6]? = some g) : l = [a, b, c, d, e, f, g] := by
  match l, h with
  | [x0, x1, x2, x3, x4, x5, x6], _ => simp at h0 h1 h2 h3 h4 h5 h6; rw [h0, h1, h2, h3, h4, h5, h6]
set_option maxRecDepth 100000 in
/-- A message that comes in. -/
theorem read_msg {base : Nat} {v : Value} {d : DataW H} {p : List MemPlace} (hv : Value.okWide Tryd.prog W .any base 25 v)
    (h : DataW.Trod enc Tryd.prog W 0 (fun _ => true) true 25 v d p) : ∃ (m : Hd) (vm vk : Value) (M : List Mt) (K : List ByteArray), v = .agg (hd7 m vm vk) ∧ MtsIn W vm M ∧ TxIn W vk K ∧ (∀ m ∈ M, m.table.size ≤ maxLen) ∧ ∀ k ∈ K, k.size ≤ maxLen := by
  obtain ⟨cs, rfl, hsz⟩ := okWide_struct Tryd.underlying25 hv
  obtain ⟨fuel, hf⟩ := h
  have hf : DataW.trod enc Tryd.prog W 0 (fun _ => true) true fuel 25 cs.toList = some (d, p) := hf
  obtain ⟨xs, m, _, _, hl, hlen, hff⟩ := DataW.trod_struct Tryd.underlying25 hf
  rw [cellsA_Msg] at hl
  match xs, hlen with
  | [y0, y1, y2, y3, y4, y5, y6], _ =>
    obtain ⟨i0, e0, _⟩ := fld_int Tryd.underlying3 cells_int (hff 0 _ rfl)
    obtain ⟨i1, e1, _⟩ := fld_int Tryd.underlying3 cells_int (hff 1 _ rfl)
    obtain ⟨i2, e2, _⟩ := fld_int Tryd.underlying3 cells_int (hff 2 _ rfl)
    obtain ⟨i3, e3, _⟩ := fld_int Tryd.underlying3 cells_int (hff 3 _ rfl)
    obtain ⟨vm, M, e4, hM, hMb⟩ := trod_muts (hff 4 _ rfl)
    obtain ⟨vk, K, e5, hK, hKb⟩ := trod_texts (hff 5 _ rfl)
    obtain ⟨i6, e6, _⟩ := fld_int Tryd.underlying3 cells_int (hff 6 _ rfl)
    have e4' : (cs.toList.drop 4).take (Tryd.prog.cellsOf 22) = _ := e4
    have e5' : (cs.toList.drop 5).take (Tryd.prog.cellsOf 23) = _ := e5
    rw [cellsA_Muts] at e4'
    rw [cellsA_Strs] at e5'
    exact ⟨⟨i0, i1, i2, i3, i6⟩, vm, vk, M, K, congrArg Value.agg (Array.toList_inj.1 (list7 hl e0 e1 e2 e3 (cell_of_cut e4') (cell_of_cut e5') e6)), hM, hK, hMb, hKb⟩
end
end Go.Proofs.YtfagnbofnaoncaaDoor
