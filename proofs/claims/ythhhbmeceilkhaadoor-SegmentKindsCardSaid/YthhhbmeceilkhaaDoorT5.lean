/- 'append(b, x...)' of bytes from any slice, b a row of the call's own. -/
import Derived.Test.YthhhbmeceilkhaaDoorT2
import Derived.Laws.OwnMore
import Derived.Test.YthhhbmeceilkhaaDoorT1
import Derived.Test.YthhhbmeceilkhaaDoorProg
import Derived.Test.YthhhbmeceilkhaaDoorT3
set_option linter.unusedSimpArgs false
set_option linter.unusedVariables false
namespace Go.Proofs.YthhhbmeceilkhaaDoor
open Go Go.RowKit

theorem info_b8c : Tryd.prog.info? 5 = some (Tryd.prog.info? 5).get! ∧ (Tryd.prog.info? 5).get!.zero = some (.int .u8 0) ∧ (Tryd.prog.info? 5).get!.size = 1 ∧ (Tryd.prog.info? 5).get!.bytes = 1 := ⟨by kernel_rfl, by kernel_rfl, by kernel_rfl, by kernel_rfl⟩
theorem run_ownB {w : World} {B : Nat} {v u : Value} {l m : List UInt8} (hB : B ≤ w.heap.size) (hown : OwnB w B v l) (hin : BytesIn w u m) (hb : l.length + m.length ≤ 140737488355328) (ty : TypeId) :
    ∃ v' w', (Builtin.append_ #[22, 22] ty #[v, u]).run Tryd.prog w = .ok v' w' ∧ OwnB w' B v' (l ++ m) ∧ w.grownBy w' v.ownBlock := by
  obtain ⟨a, c, rfl, hc, hcm, ha, hcell⟩ := hin
  cases a with
  | none =>
    have h0 := ha rfl
    subst h0
    obtain rfl : m = [] := List.eq_nil_of_length_eq_zero (by omega)
    exact ⟨v, w, run_append_owned_none (P := Tryd.prog) w B 22 ty 5 _ 1 und_bytes info_b8c.1 v l.length (bcells l) hown, by simpa using hown, ⟨rfl, rfl, rfl, Nat.le_refl _, fun _ _ _ => rfl⟩⟩
  | some ad =>
    obtain ⟨v', w', h1, h2, h3, _⟩ := run_append_own (P := Tryd.prog) w B 22 ty 5 _ (.int .u8 0) 1 1 und_bytes info_b8c.1 info_b8c.2.1 info_b8c.2.2.1 info_b8c.2.2.2 rfl (by decide) v l.length (bcells l) hown ad m.length c (bcells m) (by simp) (fun j u hj => by
        obtain ⟨b', o', e', hc'⟩ := hcell j u hj
        cases e'
        rw [Addr.add_lit]
        exact hc') (fun u hu => by
        simp only [bcells, List.mem_map] at hu
        obtain ⟨b, _, rfl⟩ := hu
        rfl) (by unfold maxLen; omega) (by omega) hB
    refine ⟨v', w', h1, ?_, h3⟩
    unfold OwnB
    rw [List.length_append, bcells_append]
    exact h2
section
variable {ops : Array Oper} {Q : Exit → Act → World → Prop} {a : Act} {w : World} {rest : List Oper} {o : Oper}
theorem yields_ownB (s x : Operand) (hop : o.op = Op.call { callee := Callee.builtin Builtin.append, args := #[s, x], argTypes := #[22, 22] }) {B : Nat} {v u : Value} {l m : List UInt8} (hs : a.eval s = v) (hx : a.eval x = u) (hB : B ≤ w.heap.size) (hown : OwnB w B v l) (hin : BytesIn w u m)
    (hb : l.length + m.length ≤ 140737488355328) {R : Value → World → Prop} (hR : ∀ v' w', OwnB w' B v' (l ++ m) → w.grownBy w' v.ownBlock → R v' w') : yields Tryd.prog o a w R := by
  obtain ⟨v', w', h1, h2, h3⟩ := run_ownB hB hown hin hb o.type
  unfold yields execOp
  simp only [hop, resolve, invoke, builtin, Sem.run_bind, Sem.run_pure, Result.andThen_ok, List.map_toArray, List.map_cons, List.map_nil, hs, hx, h1]
  exact hR v' w' h2 h3
theorem wpList_ownB (hw : Region.wanted o (yielded ops a.tmps) = true) (s x : Operand) (hop : o.op = Op.call { callee := Callee.builtin Builtin.append, args := #[s, x], argTypes := #[22, 22] }) {B : Nat} {v u : Value} {l m : List UInt8} (hs : a.eval s = v) (hx : a.eval x = u) (hB : B ≤ w.heap.size) (hown : OwnB w B v l) (hin : BytesIn w u m)
    (hb : l.length + m.length ≤ 140737488355328) (hK : ∀ v' w', OwnB w' B v' (l ++ m) → w.grownBy w' v.ownBlock → wpList Tryd.prog ops Q rest (a.put o.dst v') w') : wpList Tryd.prog ops Q (o :: rest) a w := by
  unfold wpList
  rw [if_pos hw]
  exact .inl (yields_wp (yields_ownB (R := fun v w' => wpList Tryd.prog ops Q rest (a.put o.dst v) w') s x hop hs hx hB hown hin hb hK) fun v w' h => h)
/-- append([]byte(nil), x...). -/
theorem yields_cloneB (s x : Operand) (hop : o.op = Op.call { callee := Callee.builtin Builtin.append, args := #[s, x], argTypes := #[22, 22] }) {u : Value} {m : List UInt8} (hs : a.eval s = .slice none 0 0) (hx : a.eval x = u) (hin : BytesIn w u m)
    (hb : m.length ≤ 140737488355328) {R : Value → World → Prop} (hR : ∀ v' w', OwnB w' w.heap.size v' m → Ext w w' → R v' w') : yields Tryd.prog o a w R :=
  yields_ownB (l := []) s x hop hs hx (Nat.le_refl _) (World.ownsRow_nil _ _ _ _) hin (by simpa using hb) fun v' w' h1 h2 => hR v' w' h1 ((Ext.refl w).grown h2 nofun)
theorem wpList_cloneB (hw : Region.wanted o (yielded ops a.tmps) = true) (s x : Operand) (hop : o.op = Op.call { callee := Callee.builtin Builtin.append, args := #[s, x], argTypes := #[22, 22] }) {u : Value} {m : List UInt8} (hs : a.eval s = .slice none 0 0) (hx : a.eval x = u) (hin : BytesIn w u m)
    (hb : m.length ≤ 140737488355328) (hK : ∀ v' w', OwnB w' w.heap.size v' m → Ext w w' → wpList Tryd.prog ops Q rest (a.put o.dst v') w') : wpList Tryd.prog ops Q (o :: rest) a w :=
  wpList_ownB (l := []) hw s x hop hs hx (Nat.le_refl _) (World.ownsRow_nil _ _ _ _) hin (by simpa using hb) fun v' w' h1 h2 => hK v' w' h1 ((Ext.refl w).grown h2 nofun)
end
end Go.Proofs.YthhhbmeceilkhaaDoor

/- A text of so many noughts: make, convert. -/
namespace Go.Proofs.YthhhbmeceilkhaaDoor
open Go Go.RowKit

theorem info_b8z : Tryd.prog.info? 5 = some (Tryd.prog.info? 5).get! ∧ (Tryd.prog.info? 5).get!.zero = some (.int .u8 0) ∧ (Tryd.prog.info? 5).get!.size = 1 ∧ (Tryd.prog.info? 5).get!.bytes = 1 := ⟨by kernel_rfl, by kernel_rfl, by kernel_rfl, by kernel_rfl⟩
theorem made_zeros (N : Nat) : (madeCells (Value.int .u8 0).cells (N * 1)).toList = bcells (List.replicate N 0) := by
  apply List.ext_getElem?
  intro j
  simp only [madeCells, Nat.mul_one, bcells]
  by_cases hj : j < N
  · simp [hj, Value.cells, Nat.mod_one]
  · rw [List.getElem?_eq_none (by simp; omega), List.getElem?_eq_none (by simp; omega)]
/-- 'make([]byte, N)'. -/
theorem run_zeros (w : World) (N : Nat) (hN : N ≤ 16777216) : ∃ w', (Instr.makeSlice 22 (.int .i64 (N : Int)) (.int .i64 (N : Int))).run Tryd.prog w = .ok (.slice (some ⟨w.heap.size, 0, none⟩) N N) w' ∧
    w'.ownsRow w.heap.size 5 1 (.slice (some ⟨w.heap.size, 0, none⟩) N N) N (bcells (List.replicate N 0)) ∧ w.grownBy w' none := by
  obtain ⟨w4, he, hown, hg⟩ := run_makeSlice_full w w.heap.size 22 5 _ _ 1 und_bytes info_b8z.1 info_b8z.2.1 info_b8z.2.2.1 .i64 .i64 N (by omega) (by rw [info_b8z.2.2.2]; omega) (by unfold maxLen; omega) (Nat.le_refl _)
  rw [made_zeros] at hown
  exact ⟨w4, he, hown, hg⟩
/-- The same, and the text that it is: facts for the walk. -/
theorem run_zero_text (w : World) (N : Nat) (hN : N ≤ 16777216) : ∃ w', (Instr.makeSlice 22 (.int .i64 (N : Int)) (.int .i64 (N : Int))).run Tryd.prog w = .ok (.slice (some ⟨w.heap.size, 0, none⟩) N N) w' ∧
    (convert 22 9 (.slice (some ⟨w.heap.size, 0, none⟩) N N)).run Tryd.prog w' = .ok (.string (str (List.replicate N 0))) w' ∧ Ext w w' := by
  obtain ⟨w4, he, hown, hg⟩ := run_zeros w N hN
  refine ⟨w4, he, ?_, (Ext.refl w).grown hg nofun⟩
  refine run_convert_bytesIn _ 22 9 5 und_bytes und_u8 und_string ?_
  have := SliceIn.of_owns hown
  unfold BytesIn
  rw [List.length_replicate]
  exact this
section
variable {ops : Array Oper} {Q : Exit → Act → World → Prop} {a : Act} {w : World} {rest : List Oper} {o : Oper}
theorem yields_zeros (x y : Operand) (hop : o.op = Op.makeSlice 22 x y) {N : Nat} (hx : a.eval x = .int .i64 (N : Int)) (hy : a.eval y = .int .i64 (N : Int)) (hN : N ≤ 16777216) {R : Value → World → Prop}
    (hR : ∀ v' w', OwnB w' w.heap.size v' (List.replicate N 0) → Ext w w' → R v' w') : yields Tryd.prog o a w R := by
  obtain ⟨w', he, hown, hg⟩ := run_zeros w N hN
  unfold yields execOp
  simp only [hop, hx, hy, Sem.run_bind, he, Result.andThen_ok, Sem.run_pure]
  exact hR _ w' (by unfold OwnB; rw [List.length_replicate]; exact hown) ((Ext.refl w).grown hg nofun)
theorem wpList_zeros (hw : Region.wanted o (yielded ops a.tmps) = true) (x y : Operand) (hop : o.op = Op.makeSlice 22 x y) {N : Nat} (hx : a.eval x = .int .i64 (N : Int)) (hy : a.eval y = .int .i64 (N : Int)) (hN : N ≤ 16777216)
    (hK : ∀ v' w', OwnB w' w.heap.size v' (List.replicate N 0) → Ext w w' → wpList Tryd.prog ops Q rest (a.put o.dst v') w') : wpList Tryd.prog ops Q (o :: rest) a w := by
  unfold wpList
  rw [if_pos hw]
  exact .inl (yields_wp (yields_zeros (R := fun v w' => wpList Tryd.prog ops Q rest (a.put o.dst v) w') x y hop hx hy hN hK) fun v w' h => h)
end
end Go.Proofs.YthhhbmeceilkhaaDoor

/- Place: any number as one below another. -/
namespace Go.Proofs.YthhhbmeceilkhaaDoor
open Go Go.RowKit

set_option maxHeartbeats 400000 in
theorem place_any (v n : Int) (h : 1 ≤ n) (hn : n ≤ 9223372036854775807) (w : World) :
    Calls Tryd.prog 14 #[.int .i64 v, .int .i64 n] w fun e w' => e = .returned (.int .i64 (v % n)) ∧ w = w' := by
  have hlo := (tmod_lo (v := v) h).1
  have hhi := (tmod_lo (v := v) h).2
  by_cases h0 : v.tmod n < 0
  · have HE := Lib.hid (tmod_neg h h0)
    go_enter Tryd.func14, Tryd.ntmps14
    go_wp2
    go_ret
    exact ⟨ret_int HE.out, rfl⟩
  · have h0' : 0 ≤ v.tmod n := by omega
    have HE := Lib.hid (tmod_pos h h0')
    go_enter Tryd.func14, Tryd.ntmps14
    go_wp2
    go_ret
    exact ⟨ret_int HE.out, rfl⟩

end Go.Proofs.YthhhbmeceilkhaaDoor

/- b[:hi], b[lo:] of a slice of bytes, as opaque values. -/
namespace Go.Proofs.YthhhbmeceilkhaaDoor
open Go Go.RowKit

section
variable {ops : Array Oper} {Q : Exit → Act → World → Prop} {a : Act} {w : World} {rest : List Oper} {o : Oper}
theorem run_subTo {ad : Option Addr} {n c hi : Nat} (h2 : hi ≤ n) (h3 : n ≤ c) (w : World) :
    ∃ v, (Instr.sliceAt 22 (.slice ad n c) none (some (.int .i64 (hi : Int))) none).run Tryd.prog w = .ok v w ∧ v = subV ad c 0 hi := by
  obtain ⟨i, hi', hs⟩ := Option.map_eq_some_iff.1 size_u8
  have e2 : (0 : Int) ≤ (hi : Int) ∧ (hi : Int) ≤ (c : Int) := ⟨by omega, by omega⟩
  have e4 : hi ≤ c := by omega
  refine ⟨_, ?_, rfl⟩
  simp [Instr.sliceAt, Instr.slice, Instr.sliceBounds, Instr.sliceBound, run_underlying und_bytes, sizeOf, typeInfo, hi', hs, go_sem, e2, e4, subV]
theorem run_subFrom {ad : Option Addr} {n c lo : Nat} (h1 : lo ≤ n) (h3 : n ≤ c) (w : World) :
    ∃ v, (Instr.sliceAt 22 (.slice ad n c) (some (.int .i64 (lo : Int))) none none).run Tryd.prog w = .ok v w ∧ v = subV ad c lo n := by
  obtain ⟨i, hi', hs⟩ := Option.map_eq_some_iff.1 size_u8
  have e1 : (0 : Int) ≤ (lo : Int) ∧ (lo : Int) ≤ (n : Int) := ⟨by omega, by omega⟩
  have e2 : (0 : Int) ≤ (n : Int) ∧ (n : Int) ≤ (c : Int) := ⟨by omega, by omega⟩
  refine ⟨_, ?_, rfl⟩
  simp [Instr.sliceAt, Instr.slice, Instr.sliceBounds, Instr.sliceBound, run_underlying und_bytes, sizeOf, typeInfo, hi', hs, go_sem, e1, e2, h1, h3, subV]
theorem wpList_subTo (hw : Region.wanted o (yielded ops a.tmps) = true) (s y : Operand) (hop : o.op = Op.slice 22 s none (some y) none) {ad : Option Addr} {c hi : Nat} {l : List UInt8} (hs : a.eval s = .slice ad l.length c) (hy : a.eval y = .int .i64 (hi : Int))
    (h : BytesIn w (.slice ad l.length c) l) (h2 : hi ≤ l.length) (hK : ∀ u, BytesIn w u (l.take hi) → wpList Tryd.prog ops Q rest (a.put o.dst u) w) : wpList Tryd.prog ops Q (o :: rest) a w := by
  have hlc : l.length ≤ c := by obtain ⟨a', c', e, hc, _⟩ := h; cases e; exact hc
  obtain ⟨v, hr, rfl⟩ := run_subTo (ad := ad) h2 hlc w
  unfold wpList
  rw [if_pos hw]
  refine .inl (yields_wp (R := fun v w' => v = subV ad c 0 hi ∧ w' = w) ?_ fun v w' ⟨e1, e2⟩ => by rw [e1, e2]; exact hK _ (by have := sub_bytes (lo := 0) h (by omega) h2; simpa using this))
  unfold yields execOp
  simp only [hop, Option.map_some, Option.map_none, hs, hy, Sem.run_bind, hr, Result.andThen_ok, Sem.run_pure]
  exact ⟨rfl, rfl⟩
theorem wpList_subFrom (hw : Region.wanted o (yielded ops a.tmps) = true) (s x : Operand) (hop : o.op = Op.slice 22 s (some x) none none) {ad : Option Addr} {c lo : Nat} {l : List UInt8} (hs : a.eval s = .slice ad l.length c) (hx : a.eval x = .int .i64 (lo : Int))
    (h : BytesIn w (.slice ad l.length c) l) (h1 : lo ≤ l.length) (hK : ∀ u, BytesIn w u (l.drop lo) → wpList Tryd.prog ops Q rest (a.put o.dst u) w) : wpList Tryd.prog ops Q (o :: rest) a w := by
  have hlc : l.length ≤ c := by obtain ⟨a', c', e, hc, _⟩ := h; cases e; exact hc
  obtain ⟨v, hr, rfl⟩ := run_subFrom (ad := ad) h1 hlc w
  unfold wpList
  rw [if_pos hw]
  refine .inl (yields_wp (R := fun v w' => v = subV ad c lo l.length ∧ w' = w) ?_ fun v w' ⟨e1, e2⟩ => by rw [e1, e2]; exact hK _ (by have := sub_bytes (hi := l.length) h h1 (Nat.le_refl _); rwa [List.take_of_length_le (by simp)] at this))
  unfold yields execOp
  simp only [hop, Option.map_some, Option.map_none, hs, hx, Sem.run_bind, hr, Result.andThen_ok, Sem.run_pure]
  exact ⟨rfl, rfl⟩
end
end Go.Proofs.YthhhbmeceilkhaaDoor
