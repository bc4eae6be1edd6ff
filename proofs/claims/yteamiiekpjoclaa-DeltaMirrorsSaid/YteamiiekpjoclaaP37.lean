/- Partitions appended to a list of one's own. -/
import Derived.Test.YteamiiekpjoclaaP4
import Derived.Test.YteamiiekpjoclaaP3
set_option linter.unusedSimpArgs false
set_option linter.unusedVariables false
namespace Go.Proofs.Yteamiiekpjoclaa
open Go Go.RowKit

theorem paCells_one (l : List Pa) (h : ∀ p ∈ l, ∃ a n c, p.rv = .slice a n c) : ∀ u ∈ paCells l, u.oneCell' = true := by
  induction l with
  | nil => nofun
  | cons p l ih =>
    intro u hu
    simp only [paCells, List.mem_cons] at hu
    rcases hu with rfl | rfl | rfl | hu
    · rfl
    · rfl
    · obtain ⟨a, n, c, e⟩ := h p (List.mem_cons_self ..)
      rw [e]; rfl
    · exact ih (fun p hp => h p (List.mem_cons_of_mem _ hp)) u hu
theorem appParts {ops : Array Oper} {rest : List Oper} {o : Oper} {a : Act} {Q : Exit → Act → World → Prop} (w : World) (hg : o.guard = none) (s x : Operand)
    (hop : o.op = Op.call { callee := Callee.builtin Builtin.append, args := #[s, x], argTypes := #[35, 35] })
    (B : Nat) (hB : B ≤ w.heap.size) (v : Value) (l : List Pa) (hown : w.ownsRow B 39 3 v l.length (paCells l)) (hs : a.eval s = v) (u : Value) (m : List Pa) (hin : PartsT w u m) (hx : a.eval x = u) (hb : l.length + m.length ≤ 1000000)
    (hK : ∀ v' w', w'.ownsRow B 39 3 v' (l ++ m).length (paCells (l ++ m)) → w.grownBy w' v.ownBlock → wpList Try.prog ops Q rest (a.put o.dst v') w') : wpList Try.prog ops Q (o :: rest) a w := by
  obtain ⟨i0, hi, hz0, hz1, hz2⟩ := info_parts info_Part
  obtain ⟨ao, c, rfl, hc, hcm, ha, hcell⟩ := hin.tin.slice
  have hone := paCells_one m (fun p hp => let ⟨a, c, e⟩ := (hin.rows p hp).shape; ⟨a, _, c, e⟩)
  cases ao with
  | none =>
    have hc0 := ha rfl
    obtain rfl : m = [] := List.eq_nil_of_length_eq_zero (by omega)
    subst hc0
    refine wpList_append_own_none hg s x 35 hop B 39 i0 3 und_Parts hi v l.length (paCells l) hs hown hx (hK _ _ (by rw [List.append_nil]; exact hown) ⟨rfl, rfl, rfl, Nat.le_refl _, fun _ _ _ => rfl⟩)
  | some ad =>
    refine wpList_append_own _ hg s x 35 hop B 39 i0 _ 3 48 und_Parts hi hz0 hz1 hz2 rfl (by decide) v l.length (paCells l) hs hown ad m.length c (paCells m) hx (paCells_length m) ?_ hone (by unfold maxLen; omega) (by omega) hB ?_
    · intro j u hj
      obtain ⟨b, o, e, h⟩ := hcell j u hj
      cases e
      rw [Addr.add_lit]
      exact h
    · intro v' w' h2 h3 _
      refine hK v' w' ?_ h3
      rw [paCells_append, List.length_append]
      exact h2
end Go.Proofs.Yteamiiekpjoclaa
