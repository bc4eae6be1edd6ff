/- Place: any number as one below another. -/
import Derived.Test.YtdkkbglfipkmdaaDoorD1
import Derived.Test.YtdkkbglfipkmdaaDoorD5
import Derived.Test.YtdkkbglfipkmdaaDoorProg
import Derived.Test.YtdkkbglfipkmdaaDoorD2
import Derived.Laws.Entries
import Derived.Laws.OwnMore
import Derived.Laws.AppendOwnNone
set_option linter.unusedSimpArgs false
set_option linter.unusedVariables false
namespace Go.Proofs.YtdkkbglfipkmdaaDoor
open Go Go.RowKit

set_option maxHeartbeats 400000 in
theorem place_any (v n : Int) (h : 1 ≤ n) (hn : n ≤ 9223372036854775807) (w : World) :
    Calls Tryd.prog 16 #[.int .i64 v, .int .i64 n] w fun e w' => e = .returned (.int .i64 (v % n)) ∧ w = w' := by
  have hlo := (tmod_lo (v := v) h).1
  have hhi := (tmod_lo (v := v) h).2
  by_cases h0 : v.tmod n < 0
  · have HE := Lib.hid (tmod_neg h h0)
    go_enter Tryd.func16, Tryd.ntmps16
    go_wp2
    go_ret
    exact ⟨ret_int HE.out, rfl⟩
  · have h0' : 0 ≤ v.tmod n := by omega
    have HE := Lib.hid (tmod_pos h h0')
    go_enter Tryd.func16, Tryd.ntmps16
    go_wp2
    go_ret
    exact ⟨ret_int HE.out, rfl⟩

end Go.Proofs.YtdkkbglfipkmdaaDoor

/- append([]T(nil), s...) of any slice in memory. -/
namespace Go.Proofs.YtdkkbglfipkmdaaDoor
open Go Go.RowKit

section
variable {P : Program} {ops : Array Oper} {Q : Exit → Act → World → Prop} {a : Act} {w : World} {rest : List Oper} {o : Oper}
/-- append([]T(nil), s...) of any slice in memory. -/
theorem wpList_cloneS {Tt e : TypeId} {z : Value} {size bytes : Nat} (hg : o.guard = none) (info : (P.info? e).map (fun i => (i.zero, i.size, i.bytes)) = some (some z, size, bytes)) (und : P.underlying Tt = some (.slice e)) (hzs : z.cells.size = size) (hsz : 0 < size) (s x : Operand)
    (hop : o.op = Op.call { callee := Callee.builtin Builtin.append, args := #[s, x], argTypes := #[Tt, Tt] }) (hs : a.eval s = .slice none 0 0) {u : Value} {m : Nat} {xs : List Value} (hin : SliceIn w u m xs) (hx : a.eval x = u)
    (hl : xs.length = m * size) (h1 : ∀ u ∈ xs, u.oneCell' = true) (h63 : m ≤ maxLen) (hb : m * bytes ≤ 140737488355328)
    (hK : ∀ v' w', w'.ownsRow w.heap.size e size v' m xs → Ext w w' → wpList P ops Q rest (a.put o.dst v') w') : wpList P ops Q (o :: rest) a w := by
  obtain ⟨i0, hi, hz0, hz1, hz2⟩ := info_parts info
  obtain ⟨ao, c, rfl, hc, hcm, ha, hcell⟩ := hin
  cases ao with
  | none =>
    have hc0 := ha rfl
    obtain rfl : m = 0 := by omega
    obtain rfl : xs = [] := List.eq_nil_of_length_eq_zero (by omega)
    subst hc0
    exact wpList_append_own_none hg s x Tt hop w.heap.size e i0 size und hi (.slice none 0 0) 0 [] hs (World.ownsRow_nil _ _ _ _) hx (hK _ _ (World.ownsRow_nil _ _ _ _) (Ext.refl w))
  | some ad =>
    refine wpList_append_own _ hg s x Tt hop w.heap.size e i0 z size bytes und hi hz0 hz1 hz2 hzs hsz (.slice none 0 0) 0 [] hs (World.ownsRow_nil _ _ _ _) ad m c xs hx hl ?_ h1 (by omega) (by rw [Nat.zero_add]; exact hb) (Nat.le_refl _) ?_
    · intro j u hj
      obtain ⟨b, o, e, h⟩ := hcell j u hj
      cases e
      rw [Addr.add_lit]
      exact h
    · intro v' w' h2 h3 _
      rw [Nat.zero_add, List.nil_append] at h2
      exact hK v' w' h2 ((Ext.refl w).grown h3 (fun q hq => by cases hq))
end
end Go.Proofs.YtdkkbglfipkmdaaDoor

/- s[:k] of a slice that points somewhere. -/
namespace Go.Proofs.YtdkkbglfipkmdaaDoor
open Go Go.RowKit

section
variable {P : Program} {ops : Array Oper} {Q : Exit → Act → World → Prop} {a : Act} {w : World} {rest : List Oper} {o : Oper}
theorem run_upto {T e : TypeId} {size : Nat} (und : P.underlying T = some (.slice e)) (hsz : (P.info? e).map (·.size) = some size) {b f n c k : Nat} (hk : k ≤ c) (w : World) :
    (Instr.sliceAt T (.slice (some ⟨b, f, none⟩) n c) none (some (.int .i64 (k : Int))) none).run P w = .ok (.slice (some ⟨b, f, none⟩) k c) w := by
  obtain ⟨i, hi, rfl⟩ := Option.map_eq_some_iff.1 hsz
  have h1 : (0 : Int) ≤ (k : Int) ∧ (k : Int) ≤ (c : Int) := ⟨by omega, by omega⟩
  simp [Instr.sliceAt, Instr.slice, Instr.sliceBounds, Instr.sliceBound, run_underlying und, sizeOf, typeInfo, hi, go_sem, h1, hk, Addr.add_lit]
theorem wpList_upto {T e : TypeId} {size : Nat} (hg : o.guard = none) (und : P.underlying T = some (.slice e)) (hsz : (P.info? e).map (·.size) = some size) (s x : Operand) (hop : o.op = Op.slice T s none (some x) none) {b f n c k : Nat} (hs : a.eval s = .slice (some ⟨b, f, none⟩) n c) (hx : a.eval x = .int .i64 (k : Int)) (hk : k ≤ c) (hK : wpList P ops Q rest (a.put o.dst (.slice (some ⟨b, f, none⟩) k c)) w) : wpList P ops Q (o :: rest) a w := by
  refine wpList_plain hg fun K hK' => ?_
  unfold Oper.wp execOp
  simp only [hop, Option.map_some, Option.map_none, hs, hx, Sem.run_bind, run_upto und hsz hk, Result.andThen_ok, Sem.run_pure]
  exact hK' _ _ hK
end
end Go.Proofs.YtdkkbglfipkmdaaDoor
