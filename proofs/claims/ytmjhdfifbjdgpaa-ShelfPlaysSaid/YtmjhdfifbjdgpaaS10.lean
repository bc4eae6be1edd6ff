/- Slices and structs that come in, read. -/
import Derived.Test.YtmjhdfifbjdgpaaS6
import Derived.Test.YtmjhdfifbjdgpaaProg
import Derived.Test.YtmjhdfifbjdgpaaS2
import Derived.Test.YtmjhdfifbjdgpaaS8
set_option linter.unusedSimpArgs false
set_option linter.unusedVariables false
namespace Go.Proofs.Ytmjhdfifbjdgpaa
open Go Go.RowKit Go.ChangeShapes Go.WideShapes Go.ChangeAt

theorem flat_get {α β : Type} {f : α → List β} {n : Nat} : ∀ {l : List α} {j : Nat} {u : β}, (∀ a ∈ l, (f a).length = n) → (l.flatMap f)[j]? = some u → ∃ (k : Nat) (h : k < l.length) (r : Nat), r < n ∧ j = k * n + r ∧ (f l[k])[r]? = some u
  | [], j, u, _, h => by simp at h
  | a :: l, j, u, hn, h => by
    have ha := hn a (List.mem_cons_self ..)
    rw [List.flatMap_cons] at h
    by_cases hj : j < n
    · rw [List.getElem?_append_left (by omega)] at h
      exact ⟨0, by simp, j, hj, by omega, h⟩
    · rw [List.getElem?_append_right (by omega), ha] at h
      obtain ⟨k, hk, r, hr, e, hu⟩ := flat_get (fun b hb => hn b (List.mem_cons_of_mem _ hb)) h
      exact ⟨k + 1, by simpa using hk, r, hr, by rw [Nat.succ_mul]; omega, by simpa using hu⟩
theorem list_of {α : Type} {p : Nat → α → Prop} : ∀ n, (∀ i, i < n → ∃ a, p i a) → ∃ l : List α, l.length = n ∧ ∀ i (h : i < l.length), p i l[i]
  | 0, _ => ⟨[], rfl, fun i h => absurd h (Nat.not_lt_zero _)⟩
  | n + 1, h => by
    obtain ⟨l, hl, hp⟩ := list_of n (fun i hi => h i (by omega))
    obtain ⟨a, ha⟩ := h n (by omega)
    refine ⟨l ++ [a], by simp [hl], fun i hi => ?_⟩
    by_cases hlt : i < l.length
    · rw [List.getElem_append_left hlt]; exact hp i hlt
    · have e : i = l.length := by simp at hi; omega
      subst e
      rw [List.getElem_append_right (Nat.le_refl _)]
      simpa [hl] using ha

section
variable {H : Type} {enc : TypeId × Value → H} {P : Program} {W : World} {spare : Nat → Bool} {held : Bool} {n : Nat} {cs : List Value} {x : DataW H × List MemPlace}
theorem read_slice {α : Type} {T e : TypeId} {size fuel : Nat} (ht : P.underlying T = some (.slice e)) (hs : P.cellsOf e = size) (hpos : 0 < size) (f : α → List Value) (Q : α → Prop)
    (h1 : ∀ n cs x, DataW.trod enc P W 0 spare held n e cs = some x → ∃ a, cs = f a ∧ Q a) (h : DataW.trod enc P W 0 spare held fuel T cs = some x) :
    ∃ v, cs = [v] ∧ ∃ l : List α, SliceIn W v l.length (l.flatMap f) ∧ ∀ a ∈ l, Q a := by
  rcases DataW.trod_slice ht h with ⟨rfl, _⟩ | ⟨a, len, cap, elems, rest, n, _, rfl, _, _, hl, hm, hlen, hel, _⟩
  · exact ⟨_, rfl, [], SliceIn.nil W, nofun⟩
  · have each : ∀ i, i < len → ∃ b : α, W.cells? 0 (a.add (i * size)) size = some (f b) ∧ Q b := by
      intro i hi
      have := hel i hi
      rw [List.getElem?_eq_getElem (by omega), hs, Option.bind_eq_some_iff] at this
      obtain ⟨cs', h2, h3⟩ := this
      obtain ⟨b, rfl, hq⟩ := h1 _ _ _ h3
      exact ⟨b, h2, hq⟩
    obtain ⟨l, hll, hp⟩ := list_of len each
    have flen : ∀ b ∈ l, (f b).length = size := by
      intro b hb
      obtain ⟨i, hi, rfl⟩ := List.getElem_of_mem hb
      exact (World.cells?_some (hp i hi).1).2.1
    refine ⟨_, rfl, l, ⟨some a, cap, by rw [hll], by rw [hll]; exact hl, hm, nofun, fun j u hj => ?_⟩, fun b hb => ?_⟩
    · obtain ⟨k, hk, r, hr, rfl, hu⟩ := flat_get flen hj
      have h2 := (World.cells?_some (hp k hk).1).2.2 r hr
      rw [hu] at h2
      obtain ⟨b, o, s⟩ := a
      cases s with
      | none =>
        rw [Addr.add_lit, Addr.add_lit] at h2
        exact ⟨b, o, rfl, by rw [← Nat.add_assoc]; exact h2⟩
      | some s =>
        exfalso
        have h0 := (World.cells?_some (hp 0 (by omega)).1).2.2 0 hpos
        rw [Nat.zero_mul] at h0
        simp only [Addr.add, if_pos] at h0
        unfold World.cell? at h0
        have hf0 : (f l[0])[0]? ≠ none := by
          rw [Ne, List.getElem?_eq_none_iff, flen _ (List.getElem_mem _)]
          omega
        split at h0 <;> simp at h0 <;> exact hf0 (by simp [← h0])
    · obtain ⟨i, hi, rfl⟩ := List.getElem_of_mem hb
      exact (hp i hi).2
theorem fld_string {t : TypeId} {o : Nat} {y : DataW H × List MemPlace} (ht : P.underlying t = some .string) (hc : P.cellsOf t = 1) (h : DataW.trod enc P W 0 spare held n t ((cs.drop o).take (P.cellsOf t)) = some y) : ∃ s : ByteArray, cs[o]? = some (.string s) := by
  obtain ⟨s, e, _⟩ := DataW.trod_string ht h
  rw [hc] at e
  exact ⟨s, cell_of_cut e⟩
theorem fld_int {t : TypeId} {o : Nat} {y : DataW H × List MemPlace} {k : IntKind} (ht : P.underlying t = some (.int k)) (hc : P.cellsOf t = 1) (h : DataW.trod enc P W 0 spare held n t ((cs.drop o).take (P.cellsOf t)) = some y) : ∃ s : Int, cs[o]? = some (.int k s) ∧ (Lit.int k s).wf = true := by
  obtain ⟨s, e, _, hw⟩ := DataW.trod_int ht h
  rw [hc] at e
  exact ⟨s, cell_of_cut e, hw⟩
theorem fld_bool {t : TypeId} {o : Nat} {y : DataW H × List MemPlace} (ht : P.underlying t = some .bool) (hc : P.cellsOf t = 1) (h : DataW.trod enc P W 0 spare held n t ((cs.drop o).take (P.cellsOf t)) = some y) : ∃ s : Bool, cs[o]? = some (.bool s) := by
  obtain ⟨s, e, _⟩ := DataW.trod_bool ht h
  rw [hc] at e
  exact ⟨s, cell_of_cut e⟩
theorem list3 {α : Type} {l : List α} {a b c : α} (h : l.length = 3) (h0 : l[0]? = some a) (h1 : l[1]? = some b) (h2 : l[2]? = some c) : l = [a, b, c] := by
  match l, h with
  | [x, y, z], _ => simp at h0 h1 h2; rw [h0, h1, h2]
theorem list4 {α : Type} {l : List α} {a b c d : α} (h : l.length = 4) (h0 : l[0]? = some a) (h1 : l[1]? = some b) (h2 : l[2]? = some c) (h3 : l[3]? = some d) : l = [a, b, c, d] := by
  match l, h with
  | [x, y, z, u], _ => simp at h0 h1 h2 h3; rw [h0, h1, h2, h3]
theorem list5 {α : Type} {l : List α} {a b c d e : α} (h : l.length = 5) (h0 : l[0]? = some a) (h1 : (l.drop 1).take 4 = [b, c, d, e]) : l = [a, b, c, d, e] := by
  match l, h with
  | [x, y, z, u, v], _ => simp at h0 h1; simp [h0, h1]
theorem list8 {α : Type} {l : List α} {a b c d e f g i : α} (h : l.length = 8) (h0 : l[0]? = some a) (h1 : (l.drop 1).take 4 = [b, c, d, e]) (h5 : l[5]? = some f) (h6 : l[6]? = some g) (h7 : l[7]? = some i) : l = [a, b, c, d, e, f, g, i] := by
  match l, h with
  | [x, y, z, u, v, p, q, r], _ => simp at h0 h1 h5 h6 h7; simp [h0, h1, h5, h6, h7]
end
theorem cells_string : Try.prog.cellsOf 9 = 1 := by kernel_rfl
theorem cells_int : Try.prog.cellsOf 3 = 1 := by kernel_rfl
theorem cells_bool : Try.prog.cellsOf 4 = 1 := by kernel_rfl
end Go.Proofs.Ytmjhdfifbjdgpaa

/- Scripts of shelf calls that come in, read: []Op of clerestorylaw05. -/
namespace Go.Proofs.Ytmjhdfifbjdgpaa
open Go Go.RowKit Go.ChangeShapes Go.WideShapes Go.ChangeAt

structure OpS where
  kind : Int
  n : Int
  s : ByteArray
def OpS.cells (o : OpS) : List Value := [.int .i64 o.kind, .int .i64 o.n, .string o.s]
structure OpS.Ok (o : OpS) : Prop where
  nB : -9223372036854775808 ≤ o.n ∧ o.n ≤ 9223372036854775807
  sB : o.s.size ≤ maxLen
structure Ops5In (W : World) (v : Value) (l : List OpS) : Prop where
  ops : SliceIn W v l.length (l.flatMap OpS.cells)
  ok : ∀ o ∈ l, o.Ok
section
variable {H : Type} {enc : TypeId × Value → H} {W : World} {spare : Nat → Bool} {held : Bool} {n : Nat} {cs : List Value} {x : DataW H × List MemPlace}
theorem cellsA_op5 : Try.prog.cellsOf 56 = 3 := by kernel_rfl
set_option maxRecDepth 100000 in
theorem trod_op5 (h : DataW.trod enc Try.prog W 0 spare held n 56 cs = some x) : ∃ o : OpS, cs = o.cells ∧ o.Ok := by
  obtain ⟨xs, m, _, _, hl, hlen, hf⟩ := DataW.trod_struct Try.underlying56 h
  rw [cellsA_op5] at hl
  match xs, hlen with
  | [y0, y1, y2], _ =>
    obtain ⟨k, e0, _⟩ := fld_int Try.underlying3 cells_int (hf 0 _ rfl)
    obtain ⟨i, e1, hw⟩ := fld_int Try.underlying3 cells_int (hf 1 _ rfl)
    obtain ⟨s, e2, hs⟩ : ∃ s : ByteArray, cs[2]? = some (.string s) ∧ s.size ≤ maxLen := by
      obtain ⟨s, e, _, hs⟩ := DataW.trod_string Try.underlying9 (hf 2 _ rfl)
      have e' : (cs.drop 2).take (Try.prog.cellsOf 9) = _ := e
      rw [cells_string] at e'
      exact ⟨s, cell_of_cut e', hs⟩
    exact ⟨⟨k, i, s⟩, list3 hl e0 e1 e2, wf_i64 hw, hs⟩
set_option maxRecDepth 100000 in
/-- A script that comes in. -/
theorem read_ops5 {base : Nat} {v : Value} {d : DataW H} {p : List MemPlace} (hv : Value.okWide Try.prog W .any base 48 v)
    (h : DataW.Trod enc Try.prog W 0 (fun _ => true) true 48 v d p) : ∃ l : List OpS, Ops5In W v l := by
  obtain ⟨a, len, cap, rfl⟩ := okWide_slice Try.underlying48 hv
  obtain ⟨fuel, hf⟩ := h
  obtain ⟨u, e, l, h, hq⟩ := read_slice Try.underlying48 cellsA_op5 (by decide) OpS.cells _ (fun _ _ _ h => trod_op5 h) hf
  simp [Value.cells] at e
  subst e
  exact ⟨l, h, hq⟩
end
theorem opSCells_len (o : OpS) : o.cells.length = 3 := rfl
theorem ops5_get : ∀ {l : List OpS} {k : Nat} (hk : k < l.length) {j : Nat} (_ : j < 3), (l.flatMap OpS.cells)[k * 3 + j]? = (l[k]).cells[j]?
  | [], k, hk, _, _ => by simp at hk
  | o :: l, 0, _, j, hj => by rw [List.flatMap_cons, Nat.zero_mul, Nat.zero_add, List.getElem?_append_left (by rw [opSCells_len]; exact hj)]; rfl
  | o :: l, k + 1, hk, j, hj => by
    have ih := ops5_get (l := l) (k := k) (by simpa using hk) hj
    rw [List.flatMap_cons, List.getElem?_append_right (by rw [opSCells_len]; omega), opSCells_len, show (k + 1) * 3 + j - 3 = k * 3 + j by omega, ih]
    rfl
theorem Ops5In.cell {w : World} {a : Option Addr} {n c : Nat} {l : List OpS} (h : SliceIn w (.slice a n c) n (l.flatMap OpS.cells)) {k : Nat} (hk : k < l.length) {j : Nat} (hj : j < 3) {u : Value} (hu : (l[k]).cells[j]? = some u) : ∃ b o, a = some ⟨b, o, none⟩ ∧ w.cell? ⟨b, o + k * 3 + j, none⟩ = some u := by
  obtain ⟨a', c', e, _, _, _, hc⟩ := h
  cases e
  obtain ⟨b, o, e, hx⟩ := hc (k * 3 + j) u (by rw [ops5_get hk hj]; exact hu)
  exact ⟨b, o, e, by rw [Nat.add_assoc]; exact hx⟩
end Go.Proofs.Ytmjhdfifbjdgpaa

/- clerestorylaw05.do: Sync. -/
namespace Go.Proofs.Ytmjhdfifbjdgpaa
open Go Go.RowKit
attribute [local go_sem] yields yUpon

set_option maxRecDepth 100000 in
set_option maxHeartbeats 16000000 in
theorem do_sync {w wr : World} {p m q : Nat} {log : ByteArray} {good : Nat} {F : Fl} {man : ByteArray} (kd n : Int) (h0 : -9223372036854775808 ≤ n) (h1 : n ≤ 9223372036854775807) (s : ByteArray) (hs : s.size ≤ 300) (hV : kd % 10 = 2) (h : Duo w wr p m q log good F man) :
    Calls Try.prog 25 #[.pointer (some ⟨p, 0, none⟩), .pointer (some ⟨q, 0, none⟩), .agg #[.int .i64 kd, .int .i64 n, .string s]] wr fun e w' => e = .returned (.bool true) ∧ DoAny w wr p m q w' := by
  have hE0 := (Ext.refl wr).alloc (.cells #[.int .i64 kd, .int .i64 n, .string s] 56)
  have hbx := BoxAt.made wr #[.int .i64 kd, .int .i64 n, .string s] 56
  have hD := h.grow hE0
  have hsm := h.len
  have hlen := hsm.len
  have hgl := h.shelf.good_le
  have hll := h.shelf.log_le
  have hrs := h.shelf.files.2
  have hqp := hD.qp
  have hqm := hD.qm
  have hbp : wr.heap.size ≠ p := by have := h.shelf.box.lt; omega
  have hbm : wr.heap.size ≠ m := by have := h.shelf.files.lt; omega
  have x0 := hbx.cell 0
  have x1 := hbx.cell 1
  have x2 := hbx.cell 2
  simp at x0 x1 x2
  go_enter Try.func25, Try.ntmps25
  go_wp2_with (first
    | (go_at_call 9; go_must (refine (place_any _ _ (by omega) (by omega) _).mono ?_); rintro e w3 ⟨rfl, rfl⟩; rw [hV])
    | (go_at_call 53; go_must (refine (sh_sync _ hD.shelf).mono ?_); rintro e w4 ⟨⟨rfl, ht4⟩, hs4⟩; have hr4 := hD.refP ht4; have c0 := hr4.c0; have c1 := hr4.c1; have f1 := hr4.free 1))
  go_ret
  have T : Touch w4 (w4.setCell ⟨q, 1, none⟩ (.int .i64 (log.size : Int))) [q] := Touch.set (by simp)
  exact ⟨rfl, DoAny.of h hE0 ht4 (by simp) hs4 (.inl rfl) T (hr4.turn T fun v hv => hv.set 1 _) hsm⟩
end Go.Proofs.Ytmjhdfifbjdgpaa

/- clerestorylaw05.do: Cut. -/
namespace Go.Proofs.Ytmjhdfifbjdgpaa
open Go Go.RowKit
attribute [local go_sem] yields yUpon

set_option maxRecDepth 100000 in
set_option maxHeartbeats 16000000 in
theorem do_cut {w wr : World} {p m q : Nat} {log : ByteArray} {good : Nat} {F : Fl} {man : ByteArray} (kd n : Int) (h0 : -9223372036854775808 ≤ n) (h1 : n ≤ 9223372036854775807) (s : ByteArray) (hs : s.size ≤ 300) (hV : kd % 10 = 3) (h : Duo w wr p m q log good F man) :
    Calls Try.prog 25 #[.pointer (some ⟨p, 0, none⟩), .pointer (some ⟨q, 0, none⟩), .agg #[.int .i64 kd, .int .i64 n, .string s]] wr fun e w' => e = .returned (.bool true) ∧ DoAny w wr p m q w' := by
  have hE0 := (Ext.refl wr).alloc (.cells #[.int .i64 kd, .int .i64 n, .string s] 56)
  have hbx := BoxAt.made wr #[.int .i64 kd, .int .i64 n, .string s] 56
  have hD := h.grow hE0
  have hsm := h.len
  have hlen := hsm.len
  have hgl := h.shelf.good_le
  have hll := h.shelf.log_le
  have hrs := h.shelf.files.2
  have hqp := hD.qp
  have hqm := hD.qm
  have hbp : wr.heap.size ≠ p := by have := h.shelf.box.lt; omega
  have hbm : wr.heap.size ≠ m := by have := h.shelf.files.lt; omega
  have x0 := hbx.cell 0
  have x1 := hbx.cell 1
  have x2 := hbx.cell 2
  simp at x0 x1 x2
  go_enter Try.func25, Try.ntmps25
  go_wp2_with (first
    | (go_at_call 9; go_must (refine (place_any _ _ (by omega) (by omega) _).mono ?_); rintro e w3 ⟨rfl, rfl⟩; rw [hV])
    | (go_at_call 58; go_must (refine (sh_cut n _ hD.shelf).mono ?_); rintro e w4 ⟨⟨rfl, ht4⟩, hs4⟩; have hr4 := hD.refP ht4; have hX4 := ht4.box hbx (by simpa using hbp); have y1 := hX4.cell 1; simp at y1)
    | (go_at_call 59; go_must (refine (r5_cut n hll _ hr4).mono ?_); rintro e w5 ⟨⟨rfl, ht5⟩, hr5⟩))
  go_ret
  exact ⟨rfl, DoAny.of h hE0 ht4 (by simp) hs4 (.inl rfl) ht5 hr5 hsm⟩
end Go.Proofs.Ytmjhdfifbjdgpaa
