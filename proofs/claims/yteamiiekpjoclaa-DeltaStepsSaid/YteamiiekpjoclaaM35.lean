/- Rows and partitions that come in, read. -/
import Derived.Test.YteamiiekpjoclaaM13
import Derived.Test.YteamiiekpjoclaaM9
namespace Go.Proofs.Yteamiiekpjoclaa
open Go Go.RowKit Go.ChangeShapes Go.WideShapes Go.ChangeAt

theorem flat_get {α β : Type} {f : α → List β} {n : Nat} : ∀ {l : List α} {j : Nat} {u : β}, (∀ a ∈ l, (f a).length = n) → (l.flatMap f)[j]? = some u → ∃ (k : Nat) (h : k < l.length) (r : Nat), r < n ∧ j = k * n + r ∧ (f l[k])[r]? = some u
  | [], j, u, _, h => by simp at h
  | a :: l, j, u, hn, h => by
    have ha := hn a (List.mem_cons_self ..)
    rw [List.flatMap_cons] at h
    by_cases hj : j < n
    · rw [List.getElem?_append_left (by omega)] at h
      exact ⟨0, by simp, j, hj, by omega, h⟩
    · rw [List.getElem?_append_right (by omega), ha] at h
      obtain ⟨k, hk, r, hr, e, hu⟩ := flat_get (fun b hb => hn b (List.mem_cons_of_mem _ hb)) h
      exact ⟨k + 1, by simpa using hk, r, hr, by rw [Nat.succ_mul]; omega, by simpa using hu⟩
theorem list_of {α : Type} {p : Nat → α → Prop} : ∀ n, (∀ i, i < n → ∃ a, p i a) → ∃ l : List α, l.length = n ∧ ∀ i (h : i < l.length), p i l[i]
  | 0, _ => ⟨[], rfl, fun i h => absurd h (Nat.not_lt_zero _)⟩
  | n + 1, h => by
    obtain ⟨l, hl, hp⟩ := list_of n (fun i hi => h i (by omega))
    obtain ⟨a, ha⟩ := h n (by omega)
    refine ⟨l ++ [a], by simp [hl], fun i hi => ?_⟩
    by_cases hlt : i < l.length
    · rw [List.getElem_append_left hlt]; exact hp i hlt
    · have e : i = l.length := by simp at hi; omega
      subst e
      rw [List.getElem_append_right (Nat.le_refl _)]
      simpa [hl] using ha

section
variable {H : Type} {enc : TypeId × Value → H} {P : Program} {W : World} {spare : Nat → Bool} {held : Bool} {n : Nat} {cs : List Value} {x : DataW H × List MemPlace}
theorem read_slice {α : Type} {T e : TypeId} {size fuel : Nat} (ht : P.underlying T = some (.slice e)) (hs : P.cellsOf e = size) (hpos : 0 < size) (f : α → List Value) (Q : α → Prop)
    (h1 : ∀ n cs x, DataW.trod enc P W 0 spare held n e cs = some x → ∃ a, cs = f a ∧ Q a) (h : DataW.trod enc P W 0 spare held fuel T cs = some x) :
    ∃ v, cs = [v] ∧ ∃ l : List α, SliceIn W v l.length (l.flatMap f) ∧ ∀ a ∈ l, Q a := by
  rcases DataW.trod_slice ht h with ⟨rfl, _⟩ | ⟨a, len, cap, elems, rest, n, _, rfl, _, _, hl, hm, hlen, hel, _⟩
  · exact ⟨_, rfl, [], SliceIn.nil W, nofun⟩
  · have each : ∀ i, i < len → ∃ b : α, W.cells? 0 (a.add (i * size)) size = some (f b) ∧ Q b := by
      intro i hi
      have := hel i hi
      rw [List.getElem?_eq_getElem (by omega), hs, Option.bind_eq_some_iff] at this
      obtain ⟨cs', h2, h3⟩ := this
      obtain ⟨b, rfl, hq⟩ := h1 _ _ _ h3
      exact ⟨b, h2, hq⟩
    obtain ⟨l, hll, hp⟩ := list_of len each
    have flen : ∀ b ∈ l, (f b).length = size := by
      intro b hb
      obtain ⟨i, hi, rfl⟩ := List.getElem_of_mem hb
      exact (World.cells?_some (hp i hi).1).2.1
    refine ⟨_, rfl, l, ⟨some a, cap, by rw [hll], by rw [hll]; exact hl, hm, nofun, fun j u hj => ?_⟩, fun b hb => ?_⟩
    · obtain ⟨k, hk, r, hr, rfl, hu⟩ := flat_get flen hj
      have h2 := (World.cells?_some (hp k hk).1).2.2 r hr
      rw [hu] at h2
      obtain ⟨b, o, s⟩ := a
      cases s with
      | none =>
        rw [Addr.add_lit, Addr.add_lit] at h2
        exact ⟨b, o, rfl, by rw [← Nat.add_assoc]; exact h2⟩
      | some s =>
        exfalso
        have h0 := (World.cells?_some (hp 0 (by omega)).1).2.2 0 hpos
        rw [Nat.zero_mul] at h0
        simp only [Addr.add, if_pos] at h0
        unfold World.cell? at h0
        have hf0 : (f l[0])[0]? ≠ none := by
          rw [Ne, List.getElem?_eq_none_iff, flen _ (List.getElem_mem _)]
          omega
        split at h0 <;> simp at h0 <;> exact hf0 (by simp [← h0])
    · obtain ⟨i, hi, rfl⟩ := List.getElem_of_mem hb
      exact (hp i hi).2
theorem fld_string {t : TypeId} {o : Nat} {y : DataW H × List MemPlace} (ht : P.underlying t = some .string) (hc : P.cellsOf t = 1) (h : DataW.trod enc P W 0 spare held n t ((cs.drop o).take (P.cellsOf t)) = some y) : ∃ s : ByteArray, cs[o]? = some (.string s) := by
  obtain ⟨s, e, _⟩ := DataW.trod_string ht h
  rw [hc] at e
  exact ⟨s, cell_of_cut e⟩
theorem fld_int {t : TypeId} {o : Nat} {y : DataW H × List MemPlace} {k : IntKind} (ht : P.underlying t = some (.int k)) (hc : P.cellsOf t = 1) (h : DataW.trod enc P W 0 spare held n t ((cs.drop o).take (P.cellsOf t)) = some y) : ∃ s : Int, cs[o]? = some (.int k s) ∧ (Lit.int k s).wf = true := by
  obtain ⟨s, e, _, hw⟩ := DataW.trod_int ht h
  rw [hc] at e
  exact ⟨s, cell_of_cut e, hw⟩
theorem fld_bool {t : TypeId} {o : Nat} {y : DataW H × List MemPlace} (ht : P.underlying t = some .bool) (hc : P.cellsOf t = 1) (h : DataW.trod enc P W 0 spare held n t ((cs.drop o).take (P.cellsOf t)) = some y) : ∃ s : Bool, cs[o]? = some (.bool s) := by
  obtain ⟨s, e, _⟩ := DataW.trod_bool ht h
  rw [hc] at e
  exact ⟨s, cell_of_cut e⟩
theorem list3 {α : Type} {l : List α} {a b c : α} (h : l.length = 3) (h0 : l[0]? = some a) (h1 : l[1]? = some b) (h2 : l[2]? = some c) : l = [a, b, c] := by
  match l, h with
  | [x, y, z], _ => simp at h0 h1 h2; rw [h0, h1, h2]
theorem list4 {α : Type} {l : List α} {a b c d : α} (h : l.length = 4) (h0 : l[0]? = some a) (h1 : l[1]? = some b) (h2 : l[2]? = some c) (h3 : l[3]? = some d) : l = [a, b, c, d] := by
  match l, h with
  | [x, y, z, u], _ => simp at h0 h1 h2 h3; rw [h0, h1, h2, h3]
theorem list5 {α : Type} {l : List α} {a b c d e : α} (h : l.length = 5) (h0 : l[0]? = some a) (h1 : (l.drop 1).take 4 = [b, c, d, e]) : l = [a, b, c, d, e] := by
  match l, h with
  | [x, y, z, u, v], _ => simp at h0 h1; simp [h0, h1]
theorem list8 {α : Type} {l : List α} {a b c d e f g i : α} (h : l.length = 8) (h0 : l[0]? = some a) (h1 : (l.drop 1).take 4 = [b, c, d, e]) (h5 : l[5]? = some f) (h6 : l[6]? = some g) (h7 : l[7]? = some i) : l = [a, b, c, d, e, f, g, i] := by
  match l, h with
  | [x, y, z, u, v, p, q, r], _ => simp at h0 h1 h5 h6 h7; simp [h0, h1, h5, h6, h7]
end
section
variable {H : Type} {enc : TypeId × Value → H} {W : World} {spare : Nat → Bool} {held : Bool} {n : Nat} {cs : List Value} {x : DataW H × List MemPlace}
theorem cells_string : Try.prog.cellsOf 9 = 1 := by kernel_rfl
theorem cells_int : Try.prog.cellsOf 3 = 1 := by kernel_rfl
theorem cells_bool : Try.prog.cellsOf 4 = 1 := by kernel_rfl
theorem cellsA_Cell : Try.prog.cellsOf 52 = 4 := by kernel_rfl
theorem cellsA_Col : Try.prog.cellsOf 58 = 5 := by kernel_rfl
theorem cellsA_Row : Try.prog.cellsOf 55 = 8 := by kernel_rfl
theorem cellsA_Part : Try.prog.cellsOf 39 = 3 := by kernel_rfl
theorem cellsA_Cols : Try.prog.cellsOf 53 = 1 := by kernel_rfl
theorem cellsA_Rows : Try.prog.cellsOf 37 = 1 := by kernel_rfl
theorem trod_cell (h : DataW.trod enc Try.prog W 0 spare held n 52 cs = some x) : ∃ c : Cl, cs = [.string c.val, .bool c.dead, .int .i64 c.at_, .int .i64 c.fin] := by
  obtain ⟨xs, m, _, _, hl, hlen, hf⟩ := DataW.trod_struct Try.underlying52 h
  rw [cellsA_Cell] at hl
  match xs, hlen with
  | [y0, y1, y2, y3], _ =>
    obtain ⟨s, e0⟩ := fld_string Try.underlying9 cells_string (hf 0 _ rfl)
    obtain ⟨b, e1⟩ := fld_bool Try.underlying4 cells_bool (hf 1 _ rfl)
    obtain ⟨i, e2, _⟩ := fld_int Try.underlying3 cells_int (hf 2 _ rfl)
    obtain ⟨j, e3, _⟩ := fld_int Try.underlying3 cells_int (hf 3 _ rfl)
    exact ⟨⟨s, b, i, j⟩, list4 hl e0 e1 e2 e3⟩
theorem trod_col (h : DataW.trod enc Try.prog W 0 spare held n 58 cs = some x) : ∃ c : Co, cs = [.string c.name, .string c.cell.val, .bool c.cell.dead, .int .i64 c.cell.at_, .int .i64 c.cell.fin] := by
  obtain ⟨xs, m, _, _, hl, hlen, hf⟩ := DataW.trod_struct Try.underlying58 h
  rw [cellsA_Col] at hl
  match xs, hlen with
  | [y0, y1], _ =>
    obtain ⟨s, e0⟩ := fld_string Try.underlying9 cells_string (hf 0 _ rfl)
    obtain ⟨c, e1⟩ := trod_cell (hf 1 _ rfl)
    have e1' : (cs.drop 1).take (Try.prog.cellsOf 52) = _ := e1
    rw [cellsA_Cell] at e1'
    exact ⟨⟨s, c⟩, list5 hl e0 e1'⟩
theorem coCells_flat (l : List Co) : coCells l = l.flatMap fun c => [.string c.name, .string c.cell.val, .bool c.cell.dead, .int .i64 c.cell.at_, .int .i64 c.cell.fin] := by
  induction l with
  | nil => rfl
  | cons c l ih => simp [coCells, ih]
theorem roCells_flat (l : List (Ro × Value)) : roCells l = l.flatMap fun p => [.string p.1.key, .string p.1.live.val, .bool p.1.live.dead, .int .i64 p.1.live.at_, .int .i64 p.1.live.fin, .int .i64 p.1.gone, .int .i64 p.1.shade, p.2] := by
  induction l with
  | nil => rfl
  | cons c l ih => simp [roCells, ih]
theorem trod_cols (h : DataW.trod enc Try.prog W 0 spare held n 53 cs = some x) : ∃ v l, cs = [v] ∧ ColsIn W v l := by
  obtain ⟨v, rfl, l, h, _⟩ := read_slice Try.underlying53 cellsA_Col (by decide) _ (fun _ => True) (fun _ _ _ h => let ⟨c, e⟩ := trod_col h; ⟨c, e, trivial⟩) h
  exact ⟨v, l, rfl, by unfold ColsIn; rw [coCells_flat]; exact h⟩
/-- A row's cells, its columns in memory. -/
theorem trod_row (h : DataW.trod enc Try.prog W 0 spare held n 55 cs = some x) : ∃ p : Ro × Value, cs = [.string p.1.key, .string p.1.live.val, .bool p.1.live.dead, .int .i64 p.1.live.at_, .int .i64 p.1.live.fin, .int .i64 p.1.gone, .int .i64 p.1.shade, p.2] ∧ ColsIn W p.2 p.1.cols := by
  obtain ⟨xs, m, _, _, hl, hlen, hf⟩ := DataW.trod_struct Try.underlying55 h
  rw [cellsA_Row] at hl
  match xs, hlen with
  | [y0, y1, y2, y3, y4], _ =>
    obtain ⟨s, e0⟩ := fld_string Try.underlying9 cells_string (hf 0 _ rfl)
    obtain ⟨c, e1⟩ := trod_cell (hf 1 _ rfl)
    obtain ⟨i, e2, _⟩ := fld_int Try.underlying3 cells_int (hf 2 _ rfl)
    obtain ⟨j, e3, _⟩ := fld_int Try.underlying3 cells_int (hf 3 _ rfl)
    obtain ⟨v, l, e4, hin⟩ := trod_cols (hf 4 _ rfl)
    have e1' : (cs.drop 1).take (Try.prog.cellsOf 52) = _ := e1
    have e4' : (cs.drop 7).take (Try.prog.cellsOf 53) = _ := e4
    rw [cellsA_Cell] at e1'
    rw [cellsA_Cols] at e4'
    exact ⟨(⟨s, c, i, j, l⟩, v), list8 hl e0 e1' e2 e3 (cell_of_cut e4'), hin⟩
theorem trod_rows (h : DataW.trod enc Try.prog W 0 spare held n 37 cs = some x) : ∃ v ps, cs = [v] ∧ RowsIn W v ps := by
  obtain ⟨v, rfl, l, h, hc⟩ := read_slice Try.underlying37 cellsA_Row (by decide) _ _ (fun _ _ _ h => trod_row h) h
  exact ⟨v, l, rfl, by rw [roCells_flat]; exact h, hc⟩
set_option maxRecDepth 100000 in
/-- A row that comes in. -/
theorem read_row {base : Nat} {v : Value} {d : DataW H} {p : List MemPlace} (hv : Value.okWide Try.prog W .any base 55 v)
    (h : DataW.Trod enc Try.prog W 0 (fun _ => true) true 55 v d p) : ∃ (r : Ro) (u : Value), v = (.agg #[.string r.key, .string r.live.val, .bool r.live.dead, .int .i64 r.live.at_, .int .i64 r.live.fin, .int .i64 r.gone, .int .i64 r.shade, u]) ∧ ColsIn W u r.cols := by
  obtain ⟨cs, rfl, hsz⟩ := okWide_struct Try.underlying55 hv
  obtain ⟨fuel, hf⟩ := h
  obtain ⟨⟨r, u⟩, e, hin⟩ := trod_row hf
  exact ⟨r, u, congrArg Value.agg (Array.toList_inj.1 e), hin⟩
set_option maxRecDepth 100000 in
/-- A partition that comes in. -/
theorem read_part {base : Nat} {v : Value} {d : DataW H} {p : List MemPlace} (hv : Value.okWide Try.prog W .any base 39 v)
    (h : DataW.Trod enc Try.prog W 0 (fun _ => true) true 39 v d p) : ∃ (k : ByteArray) (g : Int) (u : Value) (ps : List (Ro × Value)), v = .agg #[.string k, .int .i64 g, u] ∧ RowsIn W u ps := by
  obtain ⟨cs, rfl, hsz⟩ := okWide_struct Try.underlying39 hv
  obtain ⟨fuel, hf⟩ := h
  have hf : DataW.trod enc Try.prog W 0 (fun _ => true) true fuel 39 cs.toList = some (d, p) := hf
  obtain ⟨xs, m, _, _, hl, hlen, hff⟩ := DataW.trod_struct Try.underlying39 hf
  rw [cellsA_Part] at hl
  match xs, hlen with
  | [y0, y1, y2], _ =>
    obtain ⟨s, e0⟩ := fld_string Try.underlying9 cells_string (hff 0 _ rfl)
    obtain ⟨i, e1, _⟩ := fld_int Try.underlying3 cells_int (hff 1 _ rfl)
    obtain ⟨u, ps, e2, hin⟩ := trod_rows (hff 2 _ rfl)
    have e2' : (cs.toList.drop 2).take (Try.prog.cellsOf 37) = _ := e2
    rw [cellsA_Rows] at e2'
    exact ⟨s, i, u, ps, congrArg Value.agg (Array.toList_inj.1 (list3 hl e0 e1 (cell_of_cut e2'))), hin⟩
end
end Go.Proofs.Yteamiiekpjoclaa
