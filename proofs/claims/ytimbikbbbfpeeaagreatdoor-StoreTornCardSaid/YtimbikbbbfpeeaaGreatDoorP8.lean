/- Rows and columns as plain data; how they lie in memory; row.Cell, row.Gone. (what a smaller cut has) -/
import Derived.Test.YtimbikbbbfpeeaaGreatDoorP3
import Derived.Test.YtimbikbbbfpeeaaGreatDoorP6
import Derived.Test.YtimbikbbbfpeeaaGreatDoorP1
set_option linter.unusedSimpArgs false
set_option linter.unusedVariables false
namespace Go.Proofs.YtimbikbbbfpeeaaGreatDoor
open Go Go.RowKit
attribute [local go_sem] yields yUpon
end Go.Proofs.YtimbikbbbfpeeaaGreatDoor

/- row.Best. (what a smaller cut has) -/
namespace Go.Proofs.YtimbikbbbfpeeaaGreatDoor
open Go Go.RowKit
attribute [local go_sem] yields yUpon

/-- Does a cell count? -/
def bestB (c : Cl) (g : Int) : Bool := !(c.dead || decide (c.at_ < 1) || decide (c.at_ ≤ g))
def bestC (c : Cl) (g : Int) : Cl := if bestB c g then c else zeroCl
end Go.Proofs.YtimbikbbbfpeeaaGreatDoor

/- row.Seen, row.Is. (what a smaller cut has) -/
namespace Go.Proofs.YtimbikbbbfpeeaaGreatDoor
open Go Go.RowKit
attribute [local go_sem] yields yUpon

/-- Is a column's cell seen? -/
def seenCo (c : Co) (g now : Int) : Bool := !c.cell.dead && decide (g < c.cell.at_) && seenB c.cell.dead c.cell.at_ c.cell.fin now
def seenCos (l : List Co) (g now : Int) : List Co := l.filter fun c => seenCo c g now
theorem seenCos_take {l : List Co} {k : Nat} {g now : Int} {M : Co} {R : List Co} (hd : l.drop k = M :: R) : seenCos (l.take (k + 1)) g now = seenCos (l.take k) g now ++ if seenCo M g now then [M] else [] := by
  have hk : k < l.length := by
    rcases Nat.lt_or_ge k l.length with h | h
    · exact h
    · rw [List.drop_eq_nil_of_le h] at hd; cases hd
  have e : l[k] = M := by rw [List.drop_eq_getElem_cons hk] at hd; exact (List.cons.inj hd).1
  rw [List.take_succ_eq_append_getElem hk, e]
  unfold seenCos
  rw [List.filter_append]
  congr 1
  cases h : seenCo M g now <;> simp [h]
end Go.Proofs.YtimbikbbbfpeeaaGreatDoor
