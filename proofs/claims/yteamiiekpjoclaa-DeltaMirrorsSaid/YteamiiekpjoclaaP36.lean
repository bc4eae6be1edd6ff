/- Rows and partitions that come in, read. -/
import Derived.Test.YteamiiekpjoclaaP3
import Derived.Test.YteamiiekpjoclaaP10
import Derived.Test.YteamiiekpjoclaaP30
import Derived.Test.YteamiiekpjoclaaP33
import Derived.Test.YteamiiekpjoclaaP34
import Derived.Test.YteamiiekpjoclaaP35
set_option linter.unusedSimpArgs false
set_option linter.unusedVariables false
namespace Go.Proofs.Yteamiiekpjoclaa
open Go Go.RowKit Go.ChangeShapes Go.WideShapes Go.ChangeAt

theorem flat_get {α β : Type} {f : α → List β} {n : Nat} : ∀ {l : List α} {j : Nat} {u : β}, (∀ a ∈ l, (f a).length = n) → (l.flatMap f)[j]? = some u → ∃ (k : Nat) (h : k < l.length) (r : Nat), r < n ∧ j = k * n + r ∧ (f l[k])[r]? = some u
  | [], j, u, _, h => by simp at h
  | a :: l, j, u, hn, h => by
    have ha := hn a (List.mem_cons_self ..)
    rw [List.flatMap_cons] at h
    by_cases hj : j < n
    · rw [List.getElem?_append_left (by omega)] at h
      exact ⟨0, by simp, j, hj, by omega, h⟩
    · rw [List.getElem?_append_right (by omega), ha] at h
      obtain ⟨k, hk, r, hr, e, hu⟩ := flat_get (fun b hb => hn b (List.mem_cons_of_mem _ hb)) h
      exact ⟨k + 1, by simpa using hk, r, hr, by rw [Nat.succ_mul]; omega, by simpa using hu⟩
theorem list_of {α : Type} {p : Nat → α → Prop} : ∀ n, (∀ i, i < n → ∃ a, p i a) → ∃ l : List α, l.length = n ∧ ∀ i (h : i < l.length), p i l[i]
  | 0, _ => ⟨[], rfl, fun i h => absurd h (Nat.not_lt_zero _)⟩
  | n + 1, h => by
    obtain ⟨l, hl, hp⟩ := list_of n (fun i hi => h i (by omega))
    obtain ⟨a, ha⟩ := h n (by omega)
    refine ⟨l ++ [a], by simp [hl], fun i hi => ?_⟩
    by_cases hlt : i < l.length
    · rw [List.getElem_append_left hlt]; exact hp i hlt
    · have e : i = l.length := by simp at hi; omega
      subst e
      rw [List.getElem_append_right (Nat.le_refl _)]
      simpa [hl] using ha

section
variable {H : Type} {enc : TypeId × Value → H} {P : Program} {W : World} {spare : Nat → Bool} {held : Bool} {n : Nat} {cs : List Value} {x : DataW H × List MemPlace}
theorem read_slice {α : Type} {T e : TypeId} {size fuel : Nat} (ht : P.underlying T = some (.slice e)) (hs : P.cellsOf e = size) (hpos : 0 < size) (f : α → List Value) (Q : α → Prop)
    (h1 : ∀ n cs x, DataW.trod enc P W 0 spare held n e cs = some x → ∃ a, cs = f a ∧ Q a) (h : DataW.trod enc P W 0 spare held fuel T cs = some x) :
    ∃ v, cs = [v] ∧ ∃ l : List α, SliceIn W v l.length (l.flatMap f) ∧ ∀ a ∈ l, Q a := by
  rcases DataW.trod_slice ht h with ⟨rfl, _⟩ | ⟨a, len, cap, elems, rest, n, _, rfl, _, _, hl, hm, hlen, hel, _⟩
  · exact ⟨_, rfl, [], SliceIn.nil W, nofun⟩
  · have each : ∀ i, i < len → ∃ b : α, W.cells? 0 (a.add (i * size)) size = some (f b) ∧ Q b := by
      intro i hi
      have := hel i hi
      rw [List.getElem?_eq_getElem (by omega), hs, Option.bind_eq_some_iff] at this
      obtain ⟨cs', h2, h3⟩ := this
      obtain ⟨b, rfl, hq⟩ := h1 _ _ _ h3
      exact ⟨b, h2, hq⟩
    obtain ⟨l, hll, hp⟩ := list_of len each
    have flen : ∀ b ∈ l, (f b).length = size := by
      intro b hb
      obtain ⟨i, hi, rfl⟩ := List.getElem_of_mem hb
      exact (World.cells?_some (hp i hi).1).2.1
    refine ⟨_, rfl, l, ⟨some a, cap, by rw [hll], by rw [hll]; exact hl, hm, nofun, fun j u hj => ?_⟩, fun b hb => ?_⟩
    · obtain ⟨k, hk, r, hr, rfl, hu⟩ := flat_get flen hj
      have h2 := (World.cells?_some (hp k hk).1).2.2 r hr
      rw [hu] at h2
      obtain ⟨b, o, s⟩ := a
      cases s with
      | none =>
        rw [Addr.add_lit, Addr.add_lit] at h2
        exact ⟨b, o, rfl, by rw [← Nat.add_assoc]; exact h2⟩
      | some s =>
        exfalso
        have h0 := (World.cells?_some (hp 0 (by omega)).1).2.2 0 hpos
        rw [Nat.zero_mul] at h0
        simp only [Addr.add, if_pos] at h0
        unfold World.cell? at h0
        have hf0 : (f l[0])[0]? ≠ none := by
          rw [Ne, List.getElem?_eq_none_iff, flen _ (List.getElem_mem _)]
          omega
        split at h0 <;> simp at h0 <;> exact hf0 (by simp [← h0])
    · obtain ⟨i, hi, rfl⟩ := List.getElem_of_mem hb
      exact (hp i hi).2
theorem fld_string {t : TypeId} {o : Nat} {y : DataW H × List MemPlace} (ht : P.underlying t = some .string) (hc : P.cellsOf t = 1) (h : DataW.trod enc P W 0 spare held n t ((cs.drop o).take (P.cellsOf t)) = some y) : ∃ s : ByteArray, cs[o]? = some (.string s) := by
  obtain ⟨s, e, _⟩ := DataW.trod_string ht h
  rw [hc] at e
  exact ⟨s, cell_of_cut e⟩
theorem fld_int {t : TypeId} {o : Nat} {y : DataW H × List MemPlace} {k : IntKind} (ht : P.underlying t = some (.int k)) (hc : P.cellsOf t = 1) (h : DataW.trod enc P W 0 spare held n t ((cs.drop o).take (P.cellsOf t)) = some y) : ∃ s : Int, cs[o]? = some (.int k s) ∧ (Lit.int k s).wf = true := by
  obtain ⟨s, e, _, hw⟩ := DataW.trod_int ht h
  rw [hc] at e
  exact ⟨s, cell_of_cut e, hw⟩
theorem fld_bool {t : TypeId} {o : Nat} {y : DataW H × List MemPlace} (ht : P.underlying t = some .bool) (hc : P.cellsOf t = 1) (h : DataW.trod enc P W 0 spare held n t ((cs.drop o).take (P.cellsOf t)) = some y) : ∃ s : Bool, cs[o]? = some (.bool s) := by
  obtain ⟨s, e, _⟩ := DataW.trod_bool ht h
  rw [hc] at e
  exact ⟨s, cell_of_cut e⟩
theorem list3 {α : Type} {l : List α} {a b c : α} (h : l.length = 3) (h0 : l[0]? = some a) (h1 : l[1]? = some b) (h2 : l[2]? = some c) : l = [a, b, c] := by
  match l, h with
  | [x, y, z], _ => simp at h0 h1 h2; rw [h0, h1, h2]
theorem list4 {α : Type} {l : List α} {a b c d : α} (h : l.length = 4) (h0 : l[0]? = some a) (h1 : l[1]? = some b) (h2 : l[2]? = some c) (h3 : l[3]? = some d) : l = [a, b, c, d] := by
  match l, h with
  | [x, y, z, u], _ => simp at h0 h1 h2 h3; rw [h0, h1, h2, h3]
theorem list5 {α : Type} {l : List α} {a b c d e : α} (h : l.length = 5) (h0 : l[0]? = some a) (h1 : (l.drop 1).take 4 = [b, c, d, e]) : l = [a, b, c, d, e] := by
  match l, h with
  | [x, y, z, u, v], _ => simp at h0 h1; simp [h0, h1]
theorem list8 {α : Type} {l : List α} {a b c d e f g i : α} (h : l.length = 8) (h0 : l[0]? = some a) (h1 : (l.drop 1).take 4 = [b, c, d, e]) (h5 : l[5]? = some f) (h6 : l[6]? = some g) (h7 : l[7]? = some i) : l = [a, b, c, d, e, f, g, i] := by
  match l, h with
  | [x, y, z, u, v, p, q, r], _ => simp at h0 h1 h5 h6 h7; simp [h0, h1, h5, h6, h7]
end
section
variable {H : Type} {enc : TypeId × Value → H} {W : World} {spare : Nat → Bool} {held : Bool} {n : Nat} {cs : List Value} {x : DataW H × List MemPlace}
theorem cells_string : Try.prog.cellsOf 9 = 1 := by kernel_rfl
theorem cells_int : Try.prog.cellsOf 3 = 1 := by kernel_rfl
theorem cells_bool : Try.prog.cellsOf 4 = 1 := by kernel_rfl
theorem cellsA_Cell : Try.prog.cellsOf 52 = 4 := by kernel_rfl
theorem cellsA_Col : Try.prog.cellsOf 58 = 5 := by kernel_rfl
theorem cellsA_Row : Try.prog.cellsOf 55 = 8 := by kernel_rfl
theorem cellsA_Part : Try.prog.cellsOf 39 = 3 := by kernel_rfl
theorem cellsA_Cols : Try.prog.cellsOf 53 = 1 := by kernel_rfl
theorem cellsA_Rows : Try.prog.cellsOf 37 = 1 := by kernel_rfl
theorem trod_cell (h : DataW.trod enc Try.prog W 0 spare held n 52 cs = some x) : ∃ c : Cl, cs = [.string c.val, .bool c.dead, .int .i64 c.at_, .int .i64 c.fin] := by
  obtain ⟨xs, m, _, _, hl, hlen, hf⟩ := DataW.trod_struct Try.underlying52 h
  rw [cellsA_Cell] at hl
  match xs, hlen with
  | [y0, y1, y2, y3], _ =>
    obtain ⟨s, e0⟩ := fld_string Try.underlying9 cells_string (hf 0 _ rfl)
    obtain ⟨b, e1⟩ := fld_bool Try.underlying4 cells_bool (hf 1 _ rfl)
    obtain ⟨i, e2, _⟩ := fld_int Try.underlying3 cells_int (hf 2 _ rfl)
    obtain ⟨j, e3, _⟩ := fld_int Try.underlying3 cells_int (hf 3 _ rfl)
    exact ⟨⟨s, b, i, j⟩, list4 hl e0 e1 e2 e3⟩
theorem trod_col (h : DataW.trod enc Try.prog W 0 spare held n 58 cs = some x) : ∃ c : Co, cs = [.string c.name, .string c.cell.val, .bool c.cell.dead, .int .i64 c.cell.at_, .int .i64 c.cell.fin] := by
  obtain ⟨xs, m, _, _, hl, hlen, hf⟩ := DataW.trod_struct Try.underlying58 h
  rw [cellsA_Col] at hl
  match xs, hlen with
  | [y0, y1], _ =>
    obtain ⟨s, e0⟩ := fld_string Try.underlying9 cells_string (hf 0 _ rfl)
    obtain ⟨c, e1⟩ := trod_cell (hf 1 _ rfl)
    have e1' : (cs.drop 1).take (Try.prog.cellsOf 52) = _ := e1
    rw [cellsA_Cell] at e1'
    exact ⟨⟨s, c⟩, list5 hl e0 e1'⟩
theorem coCells_flat (l : List Co) : coCells l = l.flatMap fun c => [.string c.name, .string c.cell.val, .bool c.cell.dead, .int .i64 c.cell.at_, .int .i64 c.cell.fin] := by
  induction l with
  | nil => rfl
  | cons c l ih => simp [coCells, ih]
theorem roCells_flat (l : List (Ro × Value)) : roCells l = l.flatMap fun p => [.string p.1.key, .string p.1.live.val, .bool p.1.live.dead, .int .i64 p.1.live.at_, .int .i64 p.1.live.fin, .int .i64 p.1.gone, .int .i64 p.1.shade, p.2] := by
  induction l with
  | nil => rfl
  | cons c l ih => simp [roCells, ih]
theorem trod_cols (h : DataW.trod enc Try.prog W 0 spare held n 53 cs = some x) : ∃ v l, cs = [v] ∧ ColsIn W v l := by
  obtain ⟨v, rfl, l, h, _⟩ := read_slice Try.underlying53 cellsA_Col (by decide) _ (fun _ => True) (fun _ _ _ h => let ⟨c, e⟩ := trod_col h; ⟨c, e, trivial⟩) h
  exact ⟨v, l, rfl, by unfold ColsIn; rw [coCells_flat]; exact h⟩
/-- A row's cells, its columns in memory. -/
theorem trod_row (h : DataW.trod enc Try.prog W 0 spare held n 55 cs = some x) : ∃ p : Ro × Value, cs = [.string p.1.key, .string p.1.live.val, .bool p.1.live.dead, .int .i64 p.1.live.at_, .int .i64 p.1.live.fin, .int .i64 p.1.gone, .int .i64 p.1.shade, p.2] ∧ ColsIn W p.2 p.1.cols := by
  obtain ⟨xs, m, _, _, hl, hlen, hf⟩ := DataW.trod_struct Try.underlying55 h
  rw [cellsA_Row] at hl
  match xs, hlen with
  | [y0, y1, y2, y3, y4], _ =>
    obtain ⟨s, e0⟩ := fld_string Try.underlying9 cells_string (hf 0 _ rfl)
    obtain ⟨c, e1⟩ := trod_cell (hf 1 _ rfl)
    obtain ⟨i, e2, _⟩ := fld_int Try.underlying3 cells_int (hf 2 _ rfl)
    obtain ⟨j, e3, _⟩ := fld_int Try.underlying3 cells_int (hf 3 _ rfl)
    obtain ⟨v, l, e4, hin⟩ := trod_cols (hf 4 _ rfl)
    have e1' : (cs.drop 1).take (Try.prog.cellsOf 52) = _ := e1
    have e4' : (cs.drop 7).take (Try.prog.cellsOf 53) = _ := e4
    rw [cellsA_Cell] at e1'
    rw [cellsA_Cols] at e4'
    exact ⟨(⟨s, c, i, j, l⟩, v), list8 hl e0 e1' e2 e3 (cell_of_cut e4'), hin⟩
theorem trod_rows (h : DataW.trod enc Try.prog W 0 spare held n 37 cs = some x) : ∃ v ps, cs = [v] ∧ RowsIn W v ps := by
  obtain ⟨v, rfl, l, h, hc⟩ := read_slice Try.underlying37 cellsA_Row (by decide) _ _ (fun _ _ _ h => trod_row h) h
  exact ⟨v, l, rfl, by rw [roCells_flat]; exact h, hc⟩
set_option maxRecDepth 100000 in
/-- A row that comes in. -/
theorem read_row {base : Nat} {v : Value} {d : DataW H} {p : List MemPlace} (hv : Value.okWide Try.prog W .any base 55 v)
    (h : DataW.Trod enc Try.prog W 0 (fun _ => true) true 55 v d p) : ∃ (r : Ro) (u : Value), v = (.agg #[.string r.key, .string r.live.val, .bool r.live.dead, .int .i64 r.live.at_, .int .i64 r.live.fin, .int .i64 r.gone, .int .i64 r.shade, u]) ∧ ColsIn W u r.cols := by
  obtain ⟨cs, rfl, hsz⟩ := okWide_struct Try.underlying55 hv
  obtain ⟨fuel, hf⟩ := h
  obtain ⟨⟨r, u⟩, e, hin⟩ := trod_row hf
  exact ⟨r, u, congrArg Value.agg (Array.toList_inj.1 e), hin⟩
set_option maxRecDepth 100000 in
/-- A partition that comes in. -/
theorem read_part {base : Nat} {v : Value} {d : DataW H} {p : List MemPlace} (hv : Value.okWide Try.prog W .any base 39 v)
    (h : DataW.Trod enc Try.prog W 0 (fun _ => true) true 39 v d p) : ∃ (k : ByteArray) (g : Int) (u : Value) (ps : List (Ro × Value)), v = .agg #[.string k, .int .i64 g, u] ∧ RowsIn W u ps := by
  obtain ⟨cs, rfl, hsz⟩ := okWide_struct Try.underlying39 hv
  obtain ⟨fuel, hf⟩ := h
  have hf : DataW.trod enc Try.prog W 0 (fun _ => true) true fuel 39 cs.toList = some (d, p) := hf
  obtain ⟨xs, m, _, _, hl, hlen, hff⟩ := DataW.trod_struct Try.underlying39 hf
  rw [cellsA_Part] at hl
  match xs, hlen with
  | [y0, y1, y2], _ =>
    obtain ⟨s, e0⟩ := fld_string Try.underlying9 cells_string (hff 0 _ rfl)
    obtain ⟨i, e1, _⟩ := fld_int Try.underlying3 cells_int (hff 1 _ rfl)
    obtain ⟨u, ps, e2, hin⟩ := trod_rows (hff 2 _ rfl)
    have e2' : (cs.toList.drop 2).take (Try.prog.cellsOf 37) = _ := e2
    rw [cellsA_Rows] at e2'
    exact ⟨s, i, u, ps, congrArg Value.agg (Array.toList_inj.1 (list3 hl e0 e1 (cell_of_cut e2'))), hin⟩
end
end Go.Proofs.Yteamiiekpjoclaa

/- DeltaSteps: a view that mirrors a base mirrors it behind one more mutation: the law's walk. -/
namespace Go.Proofs.Yteamiiekpjoclaa
open Go Go.RowKit
attribute [local go_sem] yields yUpon ro8 pa3 vw5 tabV viewV

theorem ik_small9 (i : Nat) (h : i < 4) : (ik i).size ≤ 10 ∧ (vkey ⟨#[109]⟩ (ik i)).size ≤ 400 := by
  obtain rfl | rfl | rfl | rfl : i = 0 ∨ i = 1 ∨ i = 2 ∨ i = 3 := by omega
  all_goals decide
theorem nmK_size (j : Nat) (h : j < 4) : (nmK j).size ≤ 300 := by
  obtain rfl | rfl | rfl | rfl : j = 0 ∨ j = 1 ∨ j = 2 ∨ j = 3 := by omega
  all_goals decide
theorem parts_keep {x y : World} {v : Value} {L : List Pa} {vo : Value} {B n : Nat} {xs : List Value} (hown : x.ownsRow B 39 3 vo n xs) (hg : x.grownBy y vo.ownBlock) (h : PartsT x v L) (hne : ∀ q, v.ownBlock = some q → vo.ownBlock ≠ some q) : PartsT y v L := by
  refine ⟨?_, fun p hp => (h.rows p hp).keepOwn hown hg (by decide) (by decide)⟩
  rcases h.tin with ⟨rfl, h2, h3⟩ | ⟨b, c, Z, rfl, hb, h4⟩
  · exact .inl ⟨rfl, h2, h3⟩
  · exact .inr ⟨b, c, Z, rfl, hb.grown hg (fun e => hne b rfl e.symm), h4⟩
theorem outP_at {L : List Pa} {l : List (ByteArray × Ro)} (h : L.map Pa.data = outP l) : L.length = l.length ∧ ∀ (k : Nat) (h1 : k < L.length) (h2 : k < l.length), L[k].key = l[k].1 ∧ L[k].gone = 0 ∧ L[k].ps.map (·.1) = [l[k].2] := by
  have hl : L.length = l.length := by have := congrArg List.length h; simpa [outP] using this
  refine ⟨hl, fun k h1 h2 => ?_⟩
  have : (L.map Pa.data)[k]'(by simpa using h1) = (outP l)[k]'(by simpa [outP] using h2) := by congr 1
  simp only [outP, List.getElem_map, Pa.data, Prod.mk.injEq] at this
  exact this
theorem viL_mem {L : List Pa} {q : Pa} (h : q ∈ L) : (q.key, q.ps.map (·.1)) ∈ viL L := List.mem_map_of_mem h
/-- What put19 asks, of a view on its way. -/
theorem way_put {L : List Pa} {N : Nat} (h : OnWay (viL L) N) (hN : N ≤ 49) : L.length ≤ 1000 ∧ (∀ q ∈ L, GoodRs (q.ps.map (·.1))) ∧ (∀ q ∈ L, ∀ p ∈ q.ps, p.1.cols.length ≤ 1000) ∧ ∀ q ∈ L, q.ps.length ≤ 99 := by
  refine ⟨?_, fun q hq => h.good _ (viL_mem hq), fun q hq p hp => ?_, fun q hq => ?_⟩
  · have := h.bnd.len
    unfold viL at this
    rw [List.length_map] at this
    omega
  · have := h.bnd.cols _ (viL_mem hq) p.1 (List.mem_map_of_mem hp)
    omega
  · have := h.bnd.rows _ (viL_mem hq)
    simp only [List.length_map] at this
    omega

set_option maxRecDepth 100000 in
set_option maxHeartbeats 16000000 in
theorem law_deltaSteps (v0 : Value) (z : List Int) (mk : ByteArray) (mg : Int) (mu : Value) (ms : List (Ro × Value)) (now : Int) (w : World) (hin : IntsIn w v0 .i64 z) (hz : z.length ≤ 60) (hm : RowsIn w mu ms) :
    Calls Try.prog 4 #[v0, .agg #[.string mk, .int .i64 mg, mu], .int .i64 now] w fun e w' => e = .returned (.bool true) ∧ Ext w w' := by
  obtain ⟨a, c, rfl, hc, hcm, ha⟩ := hin.block
  obtain ⟨am, cm, rfl, _⟩ := hm.get
  obtain ⟨nm, hnm⟩ : ∃ nm, nm = ms.length := ⟨_, rfl⟩
  rw [← hnm] at hm ⊢
  have HNM := Lib.hid hnm
  clear hnm
  have a4 := BoxAt.made w (pa3 mk mg (.slice am nm cm)) 39
  have hE0 := (Ext.refl w).alloc (.cells (pa3 mk mg (.slice am nm cm)) 39)
  have hm0 := hm.ext hE0
  have hin0 := hin.ext hE0
  go_enter Try.func4, Try.ntmps4
  go_wp2_with fail
  refine (fewPart_any mk mg _ ms 12 _ hm0).mono ?_
  rintro e w1 ⟨B, rfl, hB, hE1⟩
  cases B
  · clear hB
    go_wp2_with fail
    refine (awake19_any w1).mono ?_
    rintro e w10 ⟨rfl, hE10⟩
    go_wp2_with fail
    go_ret
    exact ⟨rfl, (hE0.trans hE1).trans hE10⟩
  · obtain ⟨_, hm12, hmf⟩ := hB rfl
    have hmf' := hmf
    have HMF := Lib.hid hmf'
    have hE01 := hE0.trans hE1
    have b4 := a4.ext hE1
    have hm1 := hm0.ext hE1
    obtain ⟨z0, z1, z2⟩ := b4.pa
    clear hB hmf hmf' hE1 a4 hm0
    go_wp2_with fail
    refine (check8_any mk mg _ ms w1 hm1 (fun p hp c hc => by have := ((HMF.out p hp).each c hc).1; omega)).mono ?_
    obtain ⟨PB, hPB⟩ : ∃ B, B = ptB mk mg (ms.map (·.1)) := ⟨_, rfl⟩
    rw [← hPB]
    have HPB := Lib.hid hPB
    clear hPB
    rintro e w2 ⟨rfl, hE2⟩
    cases PB
    · go_wp2_with fail
      refine (awake19_any w2).mono ?_
      rintro e w10 ⟨rfl, hE10⟩
      go_wp2_with fail
      go_ret
      exact ⟨rfl, (hE01.trans hE2).trans hE10⟩
    · obtain ⟨hokq, hqr⟩ := ptB_ok HPB.out.symm
      have HOKQ := Lib.hid hokq
      have HQR := Lib.hid hqr
      have hEa := hE01.trans hE2
      have b4a := b4.ext hE2
      have hma := hm1.ext hE2
      have hina := hin.ext hEa
      clear hin0 hE01 hE2 b4 hm1 z0 z1 z2 hE0 hin hm
      go_wp2_with fail
      refine (view_any w2).mono ?_
      rintro e w3 ⟨bs, bu, rfl, hns, hE3⟩
      go_wp2_with (first
        | (((guard_target =~ wpList _ _ _ (Oper.mk none (Op.store _ (Operand.tmp 7) (Operand.tmp 35)) _ _ _ _ :: _) _ _); go_must (refine storeBox rfl 28 (.tmp 7) (.tmp 35) rfl (w3.heap.size) _ _ _ (by rfl) (by rfl) (((BoxAt.made w3 #[.string ⟨#[]⟩, .int .i64 0, .string ⟨#[]⟩, .int .i64 0, .string ⟨#[]⟩, .int .i64 0, .slice none 0 0] 28).ext ((Ext.refl _).alloc _))) (by kernel_rfl) (by rfl) (by simp [Value.oneCell']) ?_); intro w4 c4 g4); have hX4 : Ext w3 w4 := (((Ext.refl w3).alloc _).alloc _).grown g4 (fun q hq => by cases hq; omega); have hv4 := (BoxAt.madeN #[.string ⟨#[]⟩, .int .i64 0, .string ⟨#[]⟩, .string ⟨#[]⟩, .slice none 0 0] 31 (show (w3.alloc (.cells #[.string ⟨#[]⟩, .int .i64 0, .string ⟨#[]⟩, .int .i64 0, .string ⟨#[]⟩, .int .i64 0, .slice none 0 0] 28)).heap.size = w3.heap.size + 1 by simp)).grown g4 (fun e => by have := Option.some.inj e; omega))
        | (((guard_target =~ wpList _ _ _ (Oper.mk none (Op.store _ (Operand.tmp 8) (Operand.tmp 36)) _ _ _ _ :: _) _ _); go_must (refine storeBox rfl 31 (.tmp 8) (.tmp 36) rfl (w3.heap.size + 1) _ _ _ (by rfl) (by rfl) (hv4) (by kernel_rfl) (by rfl) (by simp [Value.oneCell']) ?_); intro w5 c5 g5); have hX5 : Ext w3 w5 := hX4.grown g5 (fun q hq => by cases hq; omega); have b7 : BoxAt w5 w3.heap.size #[.string ⟨#[116]⟩, .int .i64 1, .string ⟨#[112]⟩, .int .i64 1, .string ⟨#[107]⟩, .int .i64 2, .slice (some ⟨bs, 0, none⟩) 4 4] 28 := c4.grown g5 (fun e => by have := Option.some.inj e; omega); have b8 : BoxAt w5 (w3.heap.size + 1) (vw5 dV (.slice (some ⟨bu, 0, none⟩) 2 2)) 31 := c5))
      have hE5 : Ext w w5 := hEa.trans (hE3.trans hX5)
      obtain ⟨bt, hbt⟩ : ∃ b, b = w3.heap.size := ⟨_, rfl⟩
      obtain ⟨bv, hbv⟩ : ∃ b, b = w3.heap.size + 1 := ⟨_, rfl⟩
      rw [← hbv] at b8
      rw [← hbt] at b7
      rw [← hbv, ← hbt]
      replace hns := hns.ext hX5
      have hin5 := hina.ext (hE3.trans hX5)
      have b45 := b4a.ext (hE3.trans hX5)
      have hm5 := hma.ext (hE3.trans hX5)
      clear hbt hbv c4 g4 hX4 hv4 c5 g5 hX5 hE3 hina b4a hma hEa
      refine (made_any _ z ⟨#[109]⟩ w5 hin5).mono ?_
      rintro e w6 ⟨⟨pk, pg, prv, ps⟩, rfl, ⟨hpk, hpg, hgr⟩, hrows, hE6⟩
      simp only at hpk hpg hgr hrows
      obtain ⟨ar, cr, rfl⟩ := hrows.shape
      have hnum := hgr.num
      obtain ⟨n, hn⟩ : ∃ n, n = ps.length := ⟨_, rfl⟩
      rw [← hn] at hrows ⊢
      have HN := Lib.hid hn
      have HNUM := Lib.hid hnum
      have hn4 : n ≤ 4 := by have := hnum.len; rw [List.length_map] at this; omega
      clear hn hnum hgr hpk hin5
      obtain ⟨TB, hTB⟩ : ∃ T : Array Value, T = #[.string ⟨#[116]⟩, .int .i64 1, .string ⟨#[112]⟩, .int .i64 1, .string ⟨#[107]⟩, .int .i64 2, .slice (some ⟨bs, 0, none⟩) 4 4] := ⟨_, rfl⟩
      have HTB := Lib.hid hTB
      rw [← hTB] at b7
      clear hTB
      go_wp2_with (((guard_target =~ wpList _ _ _ (Oper.mk none (Op.store _ (Operand.tmp 9) (Operand.tmp 38)) _ _ _ _ :: _) _ _); go_must (refine storeBox rfl 39 (.tmp 9) (.tmp 38) rfl (w6.heap.size) _ _ _ (by rfl) (by rfl) ((BoxAt.made w6 (pa3 ⟨#[]⟩ 0 (.slice none 0 0)) 39)) (by kernel_rfl) (by rfl) (by simp [Value.oneCell']) ?_); intro w7 c7 g7); have hX7 : Ext w6 w7 := ((Ext.refl w6).alloc _).grown g7 (fun q hq => by cases hq; omega); have d9 : BoxAt w7 w6.heap.size (pa3 ⟨#[109]⟩ pg (.slice ar n cr)) 39 := c7; have d7 := b7.ext (hE6.trans hX7); have d8 := b8.ext (hE6.trans hX7); have yt : ∀ i, w7.cell? ⟨bt, i, none⟩ = TB[i]? := (fun i => d7.cell i); have yv : ∀ i, w7.cell? ⟨bv, i, none⟩ = (vw5 dV (.slice (some ⟨bu, 0, none⟩) 2 2))[i]? := (fun i => d8.cell i); have yp : ∀ i, w7.cell? ⟨w6.heap.size, i, none⟩ = (pa3 ⟨#[109]⟩ pg (.slice ar n cr))[i]? := (fun i => d9.cell i); rw [HTB.out] at yt)
      have hE7 : Ext w w7 := hE5.trans (hE6.trans hX7)
      have hr7 := hrows.ext hX7
      have hns7 := hns.ext (hE6.trans hX7)
      have hm7 := hm5.ext (hE6.trans hX7)
      have d4 := b45.ext (hE6.trans hX7)
      have hcl : ∀ p ∈ ps, p.1.cols.length ≤ 4 := fun p hp => (HNUM.out.row p.1 (List.mem_map_of_mem hp)).len
      have HCL := Lib.hid hcl
      have hky : ∀ p ∈ ps, p.1.key.size ≤ 10000000 ∧ (vkey ⟨#[109]⟩ p.1.key).size ≤ 400 ∧ (vkey ⟨#[109]⟩ p.1.key).size ≤ 400 := fun p hp => by
        obtain ⟨i, hi, e⟩ := HNUM.out.key p.1 (List.mem_map_of_mem hp)
        obtain ⟨h1, h2⟩ := ik_small9 i hi
        rw [e]
        exact ⟨by omega, h2, h2⟩
      have HKY := Lib.hid hky
      obtain ⟨bp, hbp⟩ : ∃ b, b = w6.heap.size := ⟨_, rfl⟩
      rw [← hbp] at d9 yp ⊢
      clear c7 g7 b7 b8 hns hrows hX7 hE6 hE5 hcl hky hm5 b45 hbp
      refine (deltaOf_any (.slice (some ⟨bs, 0, none⟩) 4 4) dV (.slice (some ⟨bu, 0, none⟩) 2 2) dNs ⟨#[109]⟩ 0 (.slice none 0 0) [] ⟨#[109]⟩ pg _ ps w7 (RowsIn.nil _) hr7.rows hns7 nofun (fun p hp => by have := HCL.out p hp; omega) (by have := HN.out; omega) (by decide) (by decide) HKY.out).mono ?_
      rintro e w8 ⟨v8, rfl, L8, hown8, hrs8, hdata8, hE8⟩
      -- the plain law
      obtain ⟨D1, D2, hD1, hD2, hDD, hl1, hl2, hw1, hw2, hend⟩ := two_steps (x := dV) (ns := dNs) (pk := ⟨#[109]⟩) (num_ok hpg.1 HNUM.out) HOKQ.out (fun r hr => (HNUM.out.row r hr).len) (fun r hr => (HQR.out r hr).2) HNUM.out.len (by rw [List.length_map]; omega) (by decide)
      have hdata8 : L8.map Pa.data = outP D1 := by rw [hD1]; exact hdata8
      obtain ⟨hL8, hat8⟩ := outP_at hdata8
      have hpt8 : PartsT w8 v8 L8 := ⟨TIn.own hown8, hrs8⟩
      obtain ⟨a8, c8, rfl, hc8, hc8m, hget8⟩ := hpt8.get
      obtain ⟨n8, hn8⟩ : ∃ n, n = L8.length := ⟨_, rfl⟩
      rw [← hn8] at hc8 hpt8 ⊢
      have hn8D : n8 = D1.length := hn8.trans hL8
      have HN8 := Lib.hid hn8
      have HN8D := Lib.hid hn8D
      have HG8 := Lib.hid hget8
      have HA8 := Lib.hid hat8
      have HR8 := Lib.hid hrs8
      have HW1 := Lib.hid hw1
      have HW2 := Lib.hid hw2
      have HDD := Lib.hid hDD
      have HEND := Lib.hid hend
      have HD2 := Lib.hid hD2
      have hn88 : n8 ≤ 8 := by omega
      have FIN : Hid (∀ y, Ext w8 y → Ext w y ∧ BoxAt y w.heap.size (pa3 mk mg (.slice am nm cm)) 39 ∧ BoxAt y bt TB 28 ∧ BoxAt y bv (vw5 dV (.slice (some ⟨bu, 0, none⟩) 2 2)) 31 ∧ BoxAt y bp (pa3 ⟨#[109]⟩ pg (.slice ar n cr)) 39 ∧ RowsT y (.slice ar n cr) ps ∧ StrsIn y (.slice (some ⟨bu, 0, none⟩) 2 2) dNs ∧ RowsIn y (.slice am nm cm) ms) :=
        fun y h => ⟨(hE7.trans hE8).trans h, d4.ext (hE8.trans h), d7.ext (hE8.trans h), d8.ext (hE8.trans h), d9.ext (hE8.trans h), hr7.ext (hE8.trans h), hns7.ext (hE8.trans h), hm7.ext (hE8.trans h)⟩
      clear hn8 hL8 hn8D hget8 hat8 hrs8 hw1 hw2 hDD hend hD2 hdata8 hown8 hpt8 hE7 hE8 d4 d7 d8 d9 hr7 hns7 hm7 yt yv yp hD1
      go_wp2_with fail
      go_loopw [10, 11, 13] (fun vv ok i wr => ∃ (k : Nat) (L : List Pa), k ≤ n8 ∧ i = .int .i64 k ∧ ok = .bool true ∧ Ext w8 wr ∧ wr.ownsRow w8.heap.size 39 3 vv L.length (paCells L) ∧ (∀ q ∈ L, RowsT wr q.rv q.ps) ∧ (∀ q ∈ L, q.gone = 0) ∧ Hid (viL L = (D1.take k).foldl putV [])) (fun _ _ i _ => n8 - (intOf i).toNat)
      case atStart => exact ⟨0, [], Nat.zero_le _, rfl, rfl, Ext.refl w8, World.ownsRow_nil _ _ _ _, nofun, nofun, rfl⟩
      case round =>
        obtain ⟨k, L, hkn, rfl, rfl, hE, hown, hLr, hLg, HV⟩ := hrel
        by_cases hlt : k < n8
        · have hki : decide ((k : Int) < (n8 : Int)) = true := by simpa using hlt
          have hkL : k < L8.length := by rw [← HN8.out]; exact hlt
          have hkD : k < D1.length := by rw [← HN8D.out]; exact hlt
          obtain ⟨g8, rfl, hat⟩ := HG8.out k hkL
          obtain ⟨hk1, hk2, hk3⟩ := HA8.out k hkL hkD
          have hqr := (HR8.out _ (List.getElem_mem hkL)).ext hE
          have hdd := HDD.out _ (List.mem_append_left _ (List.getElem_mem hkD))
          have hft := foldl_take putV [] D1 k hkD
          obtain ⟨d, hd⟩ : ∃ d, d = D1[k] := ⟨_, rfl⟩
          obtain ⟨Q, hQ⟩ : ∃ Q, Q = L8[k] := ⟨_, rfl⟩
          rw [← hd] at hk1 hk3 hdd hft
          rw [← hQ] at hk1 hk2 hk3 hqr hat
          obtain ⟨Qk, Qg, Qrv, Qps⟩ := Q
          obtain ⟨da, ds⟩ := d
          simp only at hk1 hk2 hk3 hqr hat hdd
          subst hk1 hk2
          obtain ⟨aq, cq, rfl⟩ := hqr.shape
          obtain ⟨ql, hql⟩ : ∃ ql, ql = Qps.length := ⟨_, rfl⟩
          rw [← hql] at hqr hat
          obtain ⟨y0, y1, y2⟩ := hat.ext hE
          simp only at y0 y1 y2
          have hway := HW1.out k (by omega)
          rw [← HV.out] at hway
          obtain ⟨p1, p2, p3, p4⟩ := way_put hway (by omega)
          have HFT : Hid (putV (viL L) (Qk, ds) = (D1.take (k + 1)).foldl putV []) := by show _ = _; rw [hft, HV.out]
          have HK3 := Lib.hid hk3
          have hP2 := Lib.hid p2
          have hP3 := Lib.hid p3
          have hP4 := Lib.hid p4
          have hLR := Lib.hid hLr
          have hLG := Lib.hid hLg
          clear hat hft hd hQ hway hql p2 p3 p4 hk3 hLr hLg
          obtain ⟨av, cv, rfl⟩ := own_shape hown
          go_wp2_with fail
          refine (put19_any w8.heap.size _ L Qk _ Qps ds wr hE.le hown hLR.out hLG.out hqr.rows HK3.out p1 hP2.out hdd.1 hP3.out (by have := hdd.2; omega) hP4.out).mono ?_
          rintro e w9 ⟨v9, L9, rfl, hown9, hr9, hg9, hv9, hgr9, _⟩
          have hE9 : Ext w8 w9 := hE.grown hgr9 (fun q hq => (hown.lt q hq).1)
          obtain ⟨a9, c9, rfl⟩ := own_shape hown9
          have HV9 : Hid (viL L9 = (D1.take (k + 1)).foldl putV []) := hv9.trans HFT.out
          clear hv9 hgr9 y0 y1 y2
          go_wp2_with fail
          go_roundw
          case rel => exact ⟨k + 1, L9, by omega, by go_num, rfl, hE9, hown9, hr9, hg9, HV9⟩
          case measure => simp [intOf]; omega
        · obtain rfl : k = n8 := by omega
          have hki : decide ((k : Int) < (k : Int)) = false := by simp
          have hV1 : viL L = D1.foldl putV [] := by rw [HV.out, HN8D.out, List.take_length]
          have HV1 := Lib.hid hV1
          obtain ⟨hX, e4, e7, e8, e9, hr, hns, hmr⟩ := FIN.out wr hE
          obtain ⟨av, cv, rfl⟩ := own_shape hown
          have q9 : ∀ i, wr.cell? ⟨bp, i, none⟩ = (pa3 ⟨#[109]⟩ pg (.slice ar n cr))[i]? := fun i => e9.cell i
          have q4 : ∀ i, wr.cell? ⟨w.heap.size, i, none⟩ = (pa3 mk mg (.slice am nm cm))[i]? := fun i => e4.cell i
          have hJe : foldG keyR foldRo (ps.map (·.1)) (ms.map (·.1)) = mergeRo (ps.map (·.1)) (ms.map (·.1)) := fold_merge HNUM.out.good HOKQ.out.good
          obtain ⟨J, hJ⟩ : ∃ J, J = joinD (pg, ps.map (·.1)) (mg, ms.map (·.1)) := ⟨_, rfl⟩
          have hJ1 : max pg mg = J.1 := by rw [hJ]; rfl
          have hJ2 : mergeRo (ps.map (·.1)) (ms.map (·.1)) = J.2 := by rw [hJ]; rfl
          have hJl : J.2.length ≤ 16 := by
            rw [← hJ2]
            have h1 := mergeG_len keyR joinRo (ps.map (·.1)) (ms.map (·.1))
            have h2 := HN.out
            have h3 := HNM.out
            simp only [List.length_map] at h1
            unfold mergeRo
            omega
          obtain ⟨hokJ, _⟩ := joinD_le (num_ok hpg.1 HNUM.out) HOKQ.out
          rw [← hJ] at hokJ
          have hJc : ∀ r ∈ J.2, r.cols.length ≤ 12 ∧ r.key.size ≤ 400 ∧ ∀ c ∈ r.cols, c.name.size ≤ 300 := fun r hr => by
            rw [← hJ2] at hr
            have hb : ∀ r ∈ ps.map (·.1), r.cols.length ≤ 4 ∧ r.key.size ≤ 400 ∧ ∀ c ∈ r.cols, c.name.size ≤ 300 := fun r hr => ⟨(HNUM.out.row r hr).len, by obtain ⟨i, hi, e⟩ := HNUM.out.key r hr; rw [e]; have := (ik_small9 i hi).1; omega, fun c hc => by obtain ⟨⟨j, hj, e⟩, _⟩ := (HNUM.out.row r hr).cols c hc; rw [e]; exact nmK_size j hj⟩
            have hm : ∀ r ∈ ms.map (·.1), r.cols.length ≤ 8 ∧ r.key.size ≤ 400 ∧ ∀ c ∈ r.cols, c.name.size ≤ 300 := fun r hr => by
              obtain ⟨p, hp, rfl⟩ := List.mem_map.1 hr
              exact ⟨(HQR.out p.1 hr).2, (HQR.out p.1 hr).1, fun c hc => ((HMF.out p hp).each c hc).1⟩
            rcases mem_mergeRs hr with (h | h) | ⟨x, hx, y, hy, _, rfl⟩
            · obtain ⟨h1, h2, h3⟩ := hb r h; exact ⟨by omega, h2, h3⟩
            · obtain ⟨h1, h2, h3⟩ := hm r h; exact ⟨by omega, h2, h3⟩
            · obtain ⟨h1, h2, h3⟩ := hb x hx
              obtain ⟨k1, k2, k3⟩ := hm y hy
              refine ⟨?_, h2, fun c hc => ?_⟩
              · have := mergeG_len keyC joinCo x.cols y.cols
                show (mergeCo x.cols y.cols).length ≤ _
                unfold mergeCo
                omega
              · rcases mem_mergeCo hc with (h | h) | ⟨u, hu, v, hv, _, rfl⟩
                · exact h3 c h
                · exact k3 c h
                · exact h3 u hu
          have HJE := Lib.hid hJe
          have HJ1 := Lib.hid hJ1
          have HJ2 := Lib.hid hJ2
          have HJC := Lib.hid hJc
          have HJ := Lib.hid hJ
          have HOKJ := Lib.hid hokJ
          clear hJe hJ1 hJ2 hJc hokJ hV1 hJ
          go_wp2_with fail
          refine (join8_any ⟨#[109]⟩ mk pg mg _ _ ps ms wr hr.rows hmr (by have := HN.out; omega) (by have := HNM.out; omega) (fun p hp => by have := HCL.out p hp; omega) (fun p hp => by have := (HQR.out p.1 (List.mem_map_of_mem hp)).2; omega)).mono ?_
          rw [HJE.out, HJ1.out, HJ2.out]
          rintro e w9 ⟨hE9, ⟨_, v9, rfl, q10, hq10, hm10⟩ | ⟨hbad, _⟩⟩
          · obtain ⟨a10, c10, rfl⟩ := hq10.shape
            obtain ⟨m10, hm10'⟩ : ∃ m, m = q10.length := ⟨_, rfl⟩
            have hml : m10 ≤ 16 := by rw [hm10', ← List.length_map (f := (·.1)), hm10]; exact hJl
            rw [← hm10'] at hq10 ⊢
            have HM10 := Lib.hid hm10
            have HML := Lib.hid hm10'
            have hs0 := hE9.le
            clear hm10 hm10' q4 q9
            obtain ⟨w10, hw10⟩ : ∃ w10, w10 = w9.alloc (.cells (pa3 ⟨#[109]⟩ J.1 (.slice a10 m10 c10)) 39) := ⟨_, rfl⟩
            have HW10 : Hid (w10 = w9.alloc (.cells #[.string ⟨#[109]⟩, .int .i64 J.1, .slice a10 m10 c10] 39)) := hw10
            have d14 : BoxAt w10 w9.heap.size (pa3 ⟨#[109]⟩ J.1 (.slice a10 m10 c10)) 39 := by rw [hw10]; exact BoxAt.made _ _ _
            have hX10 : Ext w9 w10 := by rw [hw10]; exact (Ext.refl w9).alloc _
            clear hw10
            go_wp2_with fail
            rw [← HW10.out]
            have hEA : Ext wr w10 := hE9.trans hX10
            have hq10' := hq10.ext hX10
            obtain ⟨q14, hq14⟩ : ∃ q, q = w9.heap.size := ⟨_, rfl⟩
            rw [← hq14] at d14 ⊢
            have hq14s : wr.heap.size ≤ q14 := by omega
            clear hX10 hE9 hq10 hs0 hq14 HW10
            refine (check8_any ⟨#[109]⟩ J.1 _ q10 w10 hq10'.rows (fun p hp c hc => by
              have h1 : p.1 ∈ J.2 := by rw [← HM10.out]; exact List.mem_map_of_mem hp
              have := (HJC.out p.1 h1).2.2 c hc
              omega)).mono ?_
            obtain ⟨PB, hPB⟩ : ∃ B, B = ptB ⟨#[109]⟩ J.1 (q10.map (·.1)) := ⟨_, rfl⟩
            rw [← hPB]
            clear hPB
            rintro e w11 ⟨rfl, hE11⟩
            have hEA11 := hEA.trans hE11
            have d14b := d14.ext hE11
            have hq11 := hq10'.ext hE11
            clear d14 hq10' hE11 hEA
            cases PB
            · go_wp2_with fail
              refine (awake19_any w11).mono ?_
              rintro e w12 ⟨rfl, hE12⟩
              go_wp2_with fail
              go_ret
              exact ⟨rfl, (hX.trans hEA11).trans hE12⟩
            · go_wp2_with fail
              obtain ⟨aJ, cJ, eJ, hcJ, hcJm, hgetJ⟩ := hq11.rows.get
              injection eJ with eJ1 eJ2 eJ3
              subst eJ1 eJ3
              rw [← HML.out] at hcJ
              have HGJ := Lib.hid hgetJ
              clear hgetJ eJ2
              obtain ⟨wA, rfl⟩ : ∃ w', w' = wr := ⟨_, rfl⟩
              go_loopw [16] (fun i wr => ∃ k : Nat, k ≤ m10 ∧ i = .int .i64 k ∧ Ext w11 wr ∧ Hid (∀ j (h : j < q10.length), j < k → (vkey ⟨#[109]⟩ (q10[j]'h).1.key).size ≤ 400)) (fun i _ => m10 - (intOf i).toNat)
              case atStart => exact ⟨0, Nat.zero_le _, rfl, Ext.refl w11, fun j h hj => absurd hj (Nat.not_lt_zero _)⟩
              case round =>
                obtain ⟨k, hkm, rfl, hEk, HK⟩ := hrel
                obtain ⟨y0, y1, y2⟩ := (d14b.ext hEk).pa
                by_cases hlt : k < m10
                · have hki : decide ((k : Int) < (m10 : Int)) = true := by simpa using hlt
                  have hkq : k < q10.length := by rw [← HML.out]; exact hlt
                  obtain ⟨bJ, oJ, rfl, hro⟩ := HGJ.out k hkq
                  have hkk := (HJC.out q10[k].1 (by rw [← HM10.out]; exact List.mem_map_of_mem (List.getElem_mem hkq))).2.1
                  obtain ⟨key, hkey⟩ : ∃ key, key = q10[k].1.key := ⟨_, rfl⟩
                  have r0 := (hro.ext hEk).c0
                  rw [← hkey] at r0 hkk
                  have HKEY := Lib.hid hkey
                  obtain ⟨VK, hVK⟩ : ∃ VK, VK = vkey ⟨#[109]⟩ key := ⟨_, rfl⟩
                  have HVK := Lib.hid hVK
                  clear hro hkey hVK
                  go_wp2_with fail
                  refine (key18_any ⟨#[109]⟩ key wr (by decide) (by omega)).mono ?_
                  rw [← HVK.out]
                  rintro e w12 ⟨rfl, rfl⟩
                  cases hs : decide ((400 : Int) < (VK.size : Int))
                  · have hs' : Hid (VK.size ≤ 400) := by show VK.size ≤ 400; simp at hs; omega
                    go_wp2_with fail
                    go_roundw
                    case rel =>
                      refine ⟨k + 1, by omega, by go_num, hEk, fun j h hj => ?_⟩
                      by_cases hjk : j < k
                      · exact HK.out j h hjk
                      · obtain rfl : j = k := by omega
                        rw [← HKEY.out, ← HVK.out]
                        exact hs'.out
                    case measure => simp [intOf]; omega
                  · go_wp2_with fail
                    refine (awake19_any wr).mono ?_
                    rintro e w12 ⟨rfl, hE12⟩
                    go_wp2_with fail
                    go_ret
                    exact ⟨rfl, ((hX.trans hEA11).trans hEk).trans hE12⟩
                · obtain rfl : m10 = k := by omega
                  have hki : decide ((m10 : Int) < (m10 : Int)) = false := by simp
                  have hkeys : ∀ p ∈ q10, (vkey ⟨#[109]⟩ p.1.key).size ≤ 400 := fun p hp => by
                    obtain ⟨j, hj, rfl⟩ := List.getElem_of_mem hp
                    exact HK.out j hj (by have := HML.out; omega)
                  have HKEYS := Lib.hid hkeys
                  have hEw := hEA11.trans hEk
                  obtain ⟨hX2, e4', e7', e8', e9', hr', hns', hmr'⟩ := FIN.out wr (hE.trans hEw)
                  have hq12 := hq11.ext hEk
                  have yt : ∀ i, wr.cell? ⟨bt, i, none⟩ = TB[i]? := fun i => e7'.cell i
                  have yv : ∀ i, wr.cell? ⟨bv, i, none⟩ = (vw5 dV (.slice (some ⟨bu, 0, none⟩) 2 2))[i]? := fun i => e8'.cell i
                  have yp : ∀ i, wr.cell? ⟨bp, i, none⟩ = (pa3 ⟨#[109]⟩ pg (.slice ar n cr))[i]? := fun i => e9'.cell i
                  rw [HTB.out] at yt
                  have hown2 := ownsRow_ext hown hEw
                  have hown0 := hown.lt
                  have hLr2 : ∀ q ∈ L, RowsT wr q.rv q.ps := fun q hq => (hLr q hq).ext hEw
                  have d14c := d14b.ext hEk
                  have hsA : wA.heap.size ≤ wr.heap.size := hEw.le
                  have HLR2 := Lib.hid hLr2
                  have HLG := Lib.hid hLg
                  clear hkeys hLr2 hLr hLg e4 e7 e8 e9 hr hns hmr hX e4' hmr' hown d14b hq11 HGJ HK
                  go_wp2_with fail
                  refine (deltaOf_any (.slice (some ⟨bs, 0, none⟩) 4 4) dV (.slice (some ⟨bu, 0, none⟩) 2 2) dNs ⟨#[109]⟩ pg _ ps ⟨#[109]⟩ J.1 _ q10 wr hr'.rows hq12.rows hns' (fun p hp => by have := HCL.out p hp; omega) (fun p hp => by have := (HJC.out p.1 (by rw [← HM10.out]; exact List.mem_map_of_mem hp)).1; omega) (by have := HML.out; omega) (by decide) (by decide) (fun p hp => ⟨by have := (HJC.out p.1 (by rw [← HM10.out]; exact List.mem_map_of_mem hp)).2.1; omega, HKEYS.out p hp, HKEYS.out p hp⟩)).mono ?_
                  rintro e w12 ⟨v12, rfl, L12, hown12, hrs12, hdata12, hE12⟩
                  have hdata12 : L12.map Pa.data = outP D2 := by
                    rw [HD2.out, ← HJ.out]
                    rw [HM10.out] at hdata12
                    exact hdata12
                  obtain ⟨hL12, hat12⟩ := outP_at hdata12
                  have hpt12 : PartsT w12 v12 L12 := ⟨TIn.own hown12, hrs12⟩
                  obtain ⟨a12, c12, rfl, hc12, hc12m, _⟩ := hpt12.get
                  obtain ⟨n12, hn12⟩ : ∃ n, n = L12.length := ⟨_, rfl⟩
                  rw [← hn12] at hc12 hpt12 hown12 ⊢
                  have HN12 := Lib.hid hn12
                  have hn12D := hn12.trans hL12
                  have HN12D := Lib.hid hn12D
                  have HA12 := Lib.hid hat12
                  have hd12l := hown12.lt
                  have hn1232 : n12 ≤ 32 := by omega
                  have hown3 := ownsRow_ext hown2 hE12
                  have hLr3 : ∀ q ∈ L, RowsT w12 q.rv q.ps := fun q hq => (HLR2.out q hq).ext hE12
                  have hq13 := hq12.ext hE12
                  have d14d := d14c.ext hE12
                  have hEw12 := (hE.trans hEw).trans hE12
                  have hs12 := hE12.le
                  have hq14l := d14c.lt
                  clear hdata12 hL12 hat12 hn12 hn12D hrs12 hown12 hown2 hr' hns' hq12 d14c yt yv yp e7' e8' e9' HLR2 y0 y1 y2
                  go_wp2_with fail
                  obtain ⟨wB, rfl⟩ : ∃ w', w' = wr := ⟨_, rfl⟩
                  go_loopw [10, 11, 18] (fun vv ok i wr => ∃ (k : Nat) (L : List Pa), k ≤ n12 ∧ i = .int .i64 k ∧ ok = .bool true ∧ Ext w8 wr ∧ wr.ownsRow w8.heap.size 39 3 vv L.length (paCells L) ∧ (∀ q ∈ L, RowsT wr q.rv q.ps) ∧ (∀ q ∈ L, q.gone = 0) ∧ Hid (viL L = (D2.take k).foldl putV (D1.foldl putV [])) ∧ PartsT wr (.slice a12 n12 c12) L12 ∧ BoxAt wr q14 (pa3 ⟨#[109]⟩ J.1 (.slice a10 m10 c10)) 39 ∧ RowsT wr (.slice a10 m10 c10) q10 ∧ w12.heap.size ≤ wr.heap.size ∧ Hid (∀ q, vv.ownBlock = some q → q < wA.heap.size ∨ w12.heap.size ≤ q)) (fun _ _ i _ => n12 - (intOf i).toNat)
                  case atStart => exact ⟨0, L, Nat.zero_le _, rfl, rfl, hEw12, hown3, hLr3, HLG.out, HV1.out, hpt12, d14d, hq13, Nat.le_refl _, fun q hq => .inl (hown0 q hq).2⟩
                  case round =>
                    clear hown3 hLr3 hpt12 d14d hq13 HLG HV1 hEw12
                    obtain ⟨k, L, hkn, rfl, rfl, hE, hown, hLr, hLg, HV, hpt, hb14, hqJ, hsz, HO⟩ := hrel
                    by_cases hlt : k < n12
                    · have hki : decide ((k : Int) < (n12 : Int)) = true := by simpa using hlt
                      have hkL : k < L12.length := by rw [← HN12.out]; exact hlt
                      have hkD : k < D2.length := by rw [← HN12D.out]; exact hlt
                      obtain ⟨a', c', ee, hcc, hccm, hget⟩ := hpt.get
                      injection ee with ee1 ee2 ee3
                      subst ee1 ee3
                      obtain ⟨g8, rfl, hat⟩ := hget k hkL
                      obtain ⟨hk1, hk2, hk3⟩ := HA12.out k hkL hkD
                      have hqr := hpt.rows _ (List.getElem_mem hkL)
                      have hdd := HDD.out _ (List.mem_append_right _ (List.getElem_mem hkD))
                      have hft := foldl_take putV (D1.foldl putV []) D2 k hkD
                      obtain ⟨d, hd⟩ : ∃ d, d = D2[k] := ⟨_, rfl⟩
                      obtain ⟨Q, hQ⟩ : ∃ Q, Q = L12[k] := ⟨_, rfl⟩
                      rw [← hd] at hk1 hk3 hdd hft
                      rw [← hQ] at hk1 hk2 hk3 hqr hat
                      obtain ⟨Qk, Qg, Qrv, Qps⟩ := Q
                      obtain ⟨da, ds⟩ := d
                      simp only at hk1 hk2 hk3 hqr hat hdd
                      subst hk1 hk2
                      obtain ⟨aq, cq, rfl⟩ := hqr.shape
                      obtain ⟨ql, hql⟩ : ∃ ql, ql = Qps.length := ⟨_, rfl⟩
                      rw [← hql] at hqr hat
                      obtain ⟨y0, y1, y2⟩ := hat
                      simp only at y0 y1 y2
                      have hway := HW2.out k (by omega)
                      rw [← HV.out] at hway
                      obtain ⟨p1, p2, p3, p4⟩ := way_put hway (by omega)
                      have HFT : Hid (putV (viL L) (Qk, ds) = (D2.take (k + 1)).foldl putV (D1.foldl putV [])) := by show _ = _; rw [hft, HV.out]
                      have HK3 := Lib.hid hk3
                      have hP2 := Lib.hid p2
                      have hP3 := Lib.hid p3
                      have hP4 := Lib.hid p4
                      have hLR := Lib.hid hLr
                      have hLG := Lib.hid hLg
                      clear hft hd hQ hway hql p2 p3 p4 hk3 hLr hLg hget ee2
                      obtain ⟨av, cv, rfl⟩ := own_shape hown
                      go_wp2_with fail
                      refine (put19_any w8.heap.size _ L Qk _ Qps ds wr hE.le hown hLR.out hLG.out hqr.rows HK3.out p1 hP2.out hdd.1 hP3.out (by have := hdd.2; omega) hP4.out).mono ?_
                      rintro e w13 ⟨v13, L13, rfl, hown13, hr13, hg13, hv13, hgr13, hw13⟩
                      have hE13 : Ext w8 w13 := hE.grown hgr13 (fun q hq => (hown.lt q hq).1)
                      have hpt13 := parts_keep hown hgr13 hpt (fun q hq hq' => by
                        have h1 := hd12l q hq
                        have h2 := HO.out q hq'
                        omega)
                      have hb13 := hb14.grown hgr13 (fun e => by
                        have h2 := HO.out q14 e.symm
                        omega)
                      have hq13 := hqJ.keepOwn hown hgr13 (by decide) (by decide)
                      have hs13 := hgr13.size
                      have HO13 : Hid (∀ q, v13.ownBlock = some q → q < wA.heap.size ∨ w12.heap.size ≤ q) := fun q hq => by
                        rcases hw13 q hq with h | h
                        · exact HO.out q h
                        · right; omega
                      obtain ⟨a13, c13, rfl⟩ := own_shape hown13
                      have HV13 : Hid (viL L13 = (D2.take (k + 1)).foldl putV (D1.foldl putV [])) := hv13.trans HFT.out
                      clear hv13 hgr13 y0 y1 y2 hw13 hpt hb14 hqJ hqr
                      go_wp2_with fail
                      go_roundw
                      case rel => exact ⟨k + 1, L13, by omega, by go_num, rfl, hE13, hown13, hr13, hg13, HV13, hpt13, hb13, hq13, by omega, HO13⟩
                      case measure => simp [intOf]; omega
                    · obtain rfl : k = n12 := by omega
                      have hki : decide ((k : Int) < (k : Int)) = false := by simp
                      have hV2 : viL L = D2.foldl putV (D1.foldl putV []) := by rw [HV.out, HN12D.out, List.take_length]
                      have hway := HW2.out k (by have := HN12D.out; omega)
                      rw [← HV.out] at hway
                      obtain ⟨p1, p2, p3, p4⟩ := way_put hway (by have := HN12D.out; omega)
                      obtain ⟨hX3, _, _, e8'', _, _, hns'', _⟩ := FIN.out wr hE
                      have yv : ∀ i, wr.cell? ⟨bv, i, none⟩ = (vw5 dV (.slice (some ⟨bu, 0, none⟩) 2 2))[i]? := fun i => e8''.cell i
                      obtain ⟨y0, y1, y2⟩ := hb14.pa
                      obtain ⟨m1, m2⟩ := HEND.out now
                      rw [← hV2, ← HJ.out] at m1 m2
                      have hvF : viewF dV dNs ⟨#[109]⟩ J.1 now (q10.map (·.1)) = viewRs dV dNs ⟨#[109]⟩ J.1 now J.2 := by
                        rw [HM10.out]
                        refine viewF_short fun r hr => ?_
                        rw [← HM10.out] at hr
                        obtain ⟨p, hp, rfl⟩ := List.mem_map.1 hr
                        exact HKEYS.out p hp
                      have hM1 : ∀ e, e ∈ seenV dV (viL L) now → e ∈ viewF dV dNs ⟨#[109]⟩ J.1 now (q10.map (·.1)) := fun e he => by rw [hvF]; exact (m1 e).1 he
                      have hM2 : (seenV dV (viL L) now).length = (viewF dV dNs ⟨#[109]⟩ J.1 now (q10.map (·.1))).length := by rw [hvF]; exact m2
                      have HM1 := Lib.hid hM1
                      have HM2 := Lib.hid hM2
                      have hP1 := Lib.hid p1
                      have hLL : ∀ q ∈ L, q.ps.length ≤ 1000 ∧ ∀ p ∈ q.ps, p.1.cols.length ≤ 1000 ∧ DistN p.1.cols := fun q hq => ⟨by have := p4 q hq; omega, fun p hp => ⟨p3 q hq p hp, distN_of_up ((p2 q hq).2 p.1 (List.mem_map_of_mem hp))⟩⟩
                      have HLL := Lib.hid hLL
                      have hLG := Lib.hid hLg
                      have hptV : PartsT wr u10 L := ⟨TIn.own hown, hLr⟩
                      obtain ⟨av, cv, rfl⟩ := own_shape hown
                      clear m1 m2 hvF hM1 hM2 hLL p1 p2 p3 p4 hway hV2 hLg hLr hown HO hpt HV
                      go_wp2_with fail
                      refine (mirrors19_any _ L dV (.slice (some ⟨bu, 0, none⟩) 2 2) dNs ⟨#[109]⟩ J.1 _ q10 now wr hptV hP1.out hLG.out HLL.out hqJ.rows (by have := HML.out; omega) (fun p hp => by have := (HJC.out p.1 (by rw [← HM10.out]; exact List.mem_map_of_mem hp)).1; omega) (fun p hp => distN_of_up (HOKJ.out.good.2 p.1 (by rw [← HM10.out]; exact List.mem_map_of_mem hp))) hns'' (by decide) (fun p hp => by have := (HJC.out p.1 (by rw [← HM10.out]; exact List.mem_map_of_mem hp)).2.1; omega) HM1.out HM2.out).mono ?_
                      rintro e w14 ⟨rfl, hE14⟩
                      go_wp2_with fail
                      refine (awake19_any w14).mono ?_
                      rintro e w15 ⟨rfl, hE15⟩
                      go_wp2_with fail
                      go_ret
                      exact ⟨rfl, (hX3.trans hE14).trans hE15⟩
          · omega
theorem law_deltaSteps_long (v0 : Value) (z : List Int) (m : Value) (now : Int) (w : World) (hin : IntsIn w v0 .i64 z) (hz : 60 < z.length) (mk : ByteArray) (mg : Int) (mu : Value) (hm : m = .agg #[.string mk, .int .i64 mg, mu]) :
    Calls Try.prog 4 #[v0, m, .int .i64 now] w fun e w' => e = .returned (.bool true) ∧ Ext w w' := by
  obtain ⟨a, c, rfl, hc, hcm, ha⟩ := hin.block
  subst hm
  have k1 : decide ((60 : Int) < (z.length : Int)) = true := by simp; omega
  have hE0 := (Ext.refl w).alloc (.cells (pa3 mk mg mu) 39)
  go_enter Try.func4, Try.ntmps4
  go_wp2_with fail
  refine (awake19_any _).mono ?_
  rintro e w10 ⟨rfl, hE10⟩
  go_wp2_with fail
  go_ret
  exact ⟨rfl, hE0.trans hE10⟩
theorem walk_deltaSteps (v m : Value) (now : Int) (W : World) (w0 : ∃ l : List Int, IntsIn W v .i64 l ∧ ∀ n ∈ l, (Lit.int .i64 n).wf = true) (w1 : ∃ (k : ByteArray) (g : Int) (u : Value) (ps : List (Ro × Value)), m = .agg #[.string k, .int .i64 g, u] ∧ RowsIn W u ps) (_ : (Lit.int .i64 now).wf = true) :
    Calls Try.prog 4 #[v, m, .int .i64 now] W fun e w' => e = .returned (.bool true) ∧ Ext W w' := by
  obtain ⟨z, hin, _⟩ := w0
  obtain ⟨k, g, u, ps, rfl, hm⟩ := w1
  by_cases hz : z.length ≤ 60
  · exact law_deltaSteps v z k g u ps now W hin hz hm
  · exact law_deltaSteps_long v z _ now W hin (by omega) k g u rfl
end Go.Proofs.Yteamiiekpjoclaa

/- Many steps, put into a view in any order, some twice (plain). -/
namespace Go.Proofs.Yteamiiekpjoclaa
open Go Go.RowKit

section
variable {x : Vw} {ns : List ByteArray} {pk : ByteArray}
/-- The names that a view's rows may have. -/
def nsK (x : Vw) : List (List UInt8) := [x.on.data.toList, (nmK 0).data.toList, (nmK 1).data.toList, (nmK 2).data.toList, (nmK 3).data.toList]
def NmL (x : Vw) (l : List Co) : Prop := ∀ c ∈ l, kCo c ∈ nsK x
theorem NmL.num {l : List Co} (h : ∀ c ∈ l, NumCo c) : NmL x l := fun c hc => by
  obtain ⟨⟨j, hj, e⟩, _⟩ := h c hc
  unfold kCo nsK
  rw [e]
  obtain rfl | rfl | rfl | rfl : j = 0 ∨ j = 1 ∨ j = 2 ∨ j = 3 := by omega
  all_goals simp
theorem NmL.merge {l m : List Co} (hl : NmL x l) (hm : NmL x m) : NmL x (mergeCo l m) := fun c hc => by
  rcases mem_mergeCo hc with (h | h) | ⟨a, ha, b, hb, _, rfl⟩
  · exact hl c h
  · exact hm c h
  · exact hl a ha
theorem NmL.len {l : List Co} (h : NmL x l) (hu : Up kCo l) : l.length ≤ 5 := hu.len (K := nsK x) h
theorem Jd.names {S : Ro → Prop} (h : ∀ s, S s → NmL x s.cols) {r : Ro} (hr : Jd S r) : NmL x r.cols := by
  induction hr with
  | one hs => exact h _ hs
  | join _ hs _ ih => exact ih.merge (h _ hs)
/-- What holds of a base by numbers, and of all its deltas so far. -/
structure Ch (x : Vw) (ns : List ByteArray) (pk : ByteArray) (p : Dp) (D : List (ByteArray × Ro)) : Prop where
  num : NumRs p.2
  gone : 0 ≤ p.1
  inv : ∀ k, KInv x ns pk p D k
  keys : ∀ d ∈ D, ∃ r ∈ p.2, d.2.key = vkey pk r.key
  nm : ∀ d ∈ D, NmL x d.2.cols
theorem Ch.start : Ch x ns pk (0, []) [] := ⟨NumRs.nil, Int.le_refl _, fun k => KInv.start k, nofun, nofun⟩
theorem step_names {p p' : Dp} (ho' : OkD p') (hn : ∀ r ∈ p'.2, NmL x r.cols) {d : ByteArray × Ro} (h : d ∈ stepL x ns pk p p') : NmL x d.2.cols := by
  obtain ⟨r', hr', hd⟩ := (mem_step ho').1 h
  obtain ⟨a, s⟩ := d
  rcases mem_stepD hd with e | ⟨P, e, rfl, _⟩
  · obtain ⟨_, _, rfl⟩ := mir_some e
    intro c hc
    have hc : c ∈ flt (fK ns) (rowOf p'.2 r'.key).cols := hc
    rw [rowOf_in ho'.good.1 hr'] at hc
    exact hn r' hr' c (flt_mem hc)
  · intro c hc
    have hc : c ∈ cellL x _ := hc
    unfold cellL at hc
    split at hc
    · cases hc
    · rw [List.mem_singleton.1 hc]
      exact List.mem_cons_self ..
theorem Ch.ok {p : Dp} {D : List (ByteArray × Ro)} (h : Ch x ns pk p D) : OkD p := num_ok h.gone h.num
theorem Ch.step {p q : Dp} {D : List (ByteArray × Ro)} (h : Ch x ns pk p D) (hg : 0 ≤ q.1) (hq : NumRs q.2) : Ch x ns pk (joinD p q) (D ++ stepL x ns pk p (joinD p q)) ∧ (stepL x ns pk p (joinD p q)).length ≤ 8 := by
  obtain ⟨hn, hle⟩ := joinD_le h.ok (num_ok hg hq : OkD (q.1, q.2))
  have hm : NumRs (joinD p q).2 := h.num.merge hq
  refine ⟨⟨hm, hn.gone, fun k => (h.inv k).step h.ok hn hle, fun d hd => ?_, fun d hd => ?_⟩, ?_⟩
  · rcases List.mem_append.1 hd with hd | hd
    · obtain ⟨r, hr, e⟩ := h.keys d hd
      obtain ⟨r', hr', e'⟩ := hle.has r hr
      exact ⟨r', hr', by rw [e', e]⟩
    · exact step_keys hn hd
  · rcases List.mem_append.1 hd with hd | hd
    · exact h.nm d hd
    · exact step_names hn (fun r hr => NmL.num (hm.row r hr).cols) hd
  · have h1 := step_len (x := x) (ns := ns) (pk := pk) p (joinD p q)
    have h2 := hm.len
    omega
theorem Ch.up {p : Dp} {D : List (ByteArray × Ro)} (h : Ch x ns pk p D) : ∀ d ∈ D, Up kCo d.2.cols ∧ d.2.cols.length ≤ 5 := fun d hd =>
  ⟨inv_up h.inv h.keys d hd, (h.nm d hd).len (inv_up h.inv h.keys d hd)⟩
/-- A view that some of the deltas were put into is small. -/
theorem Ch.view {p : Dp} {D P : List (ByteArray × Ro)} {V : Vi} (h : Ch x ns pk p D) (hv : VInv D P V) : ∀ q ∈ V, GoodRs q.2 ∧ q.2.length ≤ 4 ∧ ∀ r ∈ q.2, r.cols.length ≤ 5 := fun q hq => by
  have hg := hv.good q hq
  refine ⟨hg, ?_, fun r hr => ?_⟩
  · refine hg.1.len (K := [(vkey pk (ik 0)).data.toList, (vkey pk (ik 1)).data.toList, (vkey pk (ik 2)).data.toList, (vkey pk (ik 3)).data.toList]) fun r hr => ?_
    obtain ⟨s, ⟨hs, hk⟩, _⟩ := (hv.rows q hq r hr).at_le
    obtain ⟨t, ht, e⟩ := h.keys _ hs
    obtain ⟨j, hj, ej⟩ := h.num.key t ht
    unfold kRo
    rw [← hk, show s.key = vkey pk t.key from e, ej]
    obtain rfl | rfl | rfl | rfl : j = 0 ∨ j = 1 ∨ j = 2 ∨ j = 3 := by omega
    all_goals simp
  · exact (Jd.names (fun s hs => h.nm _ hs.1) (hv.rows q hq r hr)).len (hg.2 r hr)
/-- One more delta put. -/
theorem Ch.put {p : Dp} {D P : List (ByteArray × Ro)} {V : Vi} (h : Ch x ns pk p D) (hP : ∀ e ∈ P, e ∈ D) (hv : VInv D P V) {d : ByteArray × Ro} (hd : d ∈ D) : VInv D (P ++ [d]) (putV V d) ∧ (∀ e ∈ P ++ [d], e ∈ D) ∧ (putV V d).length ≤ V.length + 1 := by
  refine ⟨VInv.put (fun e he => (h.up e he).1) hP hd hv, fun e he => ?_, ?_⟩
  · rcases List.mem_append.1 he with he | he
    · exact hP e he
    · rw [List.mem_singleton.1 he]; exact hd
  · rcases putV_keys V d with ⟨k, h1, _, _⟩ | ⟨h1, _⟩
    · have := congrArg List.length h1
      simp only [List.length_map] at this
      omega
    · have := congrArg List.length h1
      simp only [List.length_map, List.length_append, List.length_cons, List.length_nil] at this
      omega
/-- All deltas put, in any order, some twice: what is seen is what the base has. -/
theorem Ch.end_ {p : Dp} {D P : List (ByteArray × Ro)} {V : Vi} (h : Ch x ns pk p D) (hon : fK ns x.on.data.toList = false) (hv : VInv D P V) (hP : ∀ d ∈ D, d ∈ P) (t : Int) :
    (∀ e, e ∈ seenV x V t ↔ e ∈ viewRs x ns pk p.1 t p.2) ∧ (seenV x V t).length = (viewRs x ns pk p.1 t p.2).length := by
  have hm := mem_seen h.ok hon h.inv h.keys hv hP t
  exact ⟨hm, len_seen h.ok hv.keys hv.good t hm⟩
end
/-- The order in which they are put reaches each of them. -/
theorem inv7 : ∀ n, n < 60 → n % 7 ≠ 0 → ∃ u, u < 60 ∧ (u * 7) % n = 1 % n := by decide +kernel
theorem reach_off {n c j : Nat} (hj : j < n) (hc : c ≤ n) : ∃ i, i < n ∧ (i + c) % n = j := by
  by_cases h : c ≤ j
  · exact ⟨j - c, by omega, by rw [Nat.sub_add_cancel h]; exact Nat.mod_eq_of_lt hj⟩
  · by_cases hcn : c = n
    · exact ⟨j, hj, by rw [hcn, Nat.add_mod_right]; exact Nat.mod_eq_of_lt hj⟩
    · exact ⟨j + n - c, by omega, by rw [show j + n - c + c = j + n by omega, Nat.add_mod_right]; exact Nat.mod_eq_of_lt hj⟩
theorem reach_seven {n c j : Nat} (hn : n < 60) (h7 : n % 7 ≠ 0) (hj : j < n) (hc : c ≤ n) : ∃ i, i < n ∧ (i * 7 + c) % n = j := by
  obtain ⟨m, hm, e⟩ := reach_off hj hc
  obtain ⟨u, _, hu⟩ := inv7 n hn h7
  refine ⟨u * m % n, Nat.mod_lt _ (by omega), ?_⟩
  have h1 : (u * m % n * 7) % n = m % n := by
    rw [Nat.mod_mul_mod, Nat.mul_assoc, Nat.mul_comm m 7, ← Nat.mul_assoc, Nat.mul_mod, hu, ← Nat.mul_mod, Nat.one_mul]
  rw [Nat.add_mod, h1, ← Nat.add_mod, e]
end Go.Proofs.Yteamiiekpjoclaa
