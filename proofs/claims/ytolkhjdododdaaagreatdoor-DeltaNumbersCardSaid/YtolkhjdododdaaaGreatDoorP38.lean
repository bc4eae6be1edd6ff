/- The reference's code points: All, Letter, Name. (what a smaller cut has) -/
import Derived.Test.YtolkhjdododdaaaGreatDoorP37
import Derived.Test.YtolkhjdododdaaaGreatDoorP2
import Derived.Test.YtolkhjdododdaaaGreatDoorP3
import Derived.Test.YtolkhjdododdaaaGreatDoorP27
import Derived.Test.YtolkhjdododdaaaGreatDoorP23
import Derived.Test.YtolkhjdododdaaaGreatDoorP34
set_option linter.unusedSimpArgs false
set_option linter.unusedVariables false
namespace Go.Proofs.YtolkhjdododdaaaGreatDoor
open Go Go.RowKit
attribute [local go_sem] yields yUpon

structure Rn where
 r : Nat
 at_ : Nat
 n : Nat
 ok : Bool
def rn4 (x : Rn) : Array Value := #[.int .i32 x.r, .int .i64 x.at_, .int .i64 x.n, .bool x.ok]
attribute [local go_sem] rn4
def rnCells : List Rn → List Value
 | [] => []
 | x :: l => .int .i32 x.r :: .int .i64 x.at_ :: .int .i64 x.n :: .bool x.ok :: rnCells l
def rnOf (s : ByteArray) (at_ : Nat) : Rn := ⟨(roneR s at_).1, at_, (roneR s at_).2.1, (roneR s at_).2.2⟩
def rsF (s : ByteArray) : Nat → Nat → List Rn
 | 0, _ => []
 | f + 1, at_ => if at_ < s.size then rnOf s at_ :: rsF s f (at_ + (rnOf s at_).n) else []
def rsAll (s : ByteArray) : List Rn := rsF s s.size 0
theorem BoxAt.rn {w : World} {p : Nat} {x : Rn} {T : TypeId} (h : BoxAt w p (rn4 x) T) : w.cell? ⟨p, 0, none⟩ = some (.int .i32 x.r) ∧ w.cell? ⟨p, 1, none⟩ = some (.int .i64 x.at_) ∧ w.cell? ⟨p, 2, none⟩ = some (.int .i64 x.n) ∧ w.cell? ⟨p, 3, none⟩ = some (.bool x.ok) := ⟨h.cell 0, h.cell 1, h.cell 2, h.cell 3⟩

def letB (x : Rn) : Bool := x.ok && ((decide (97 ≤ x.r) && decide (x.r ≤ 122)) || x.r == 95 || decide (128 ≤ x.r))
def okN (i : Nat) (x : Rn) : Bool := letB x || (!decide (i = 0) && (decide (48 ≤ x.r) && decide (x.r ≤ 57)))
def nmLoop : Nat → List Rn → Bool
 | _, [] => true
 | i, x :: l => okN i x && nmLoop (i + 1) l
/-- Is a text a name? -/
def nameB (s : ByteArray) : Bool := nmLoop 0 (rsAll s) && (decide (1 ≤ s.size) && decide (s.size ≤ 100))
end Go.Proofs.YtolkhjdododdaaaGreatDoor

/- The reference's Check of cells, of rows. (what a smaller cut has) -/
namespace Go.Proofs.YtolkhjdododdaaaGreatDoor
open Go Go.RowKit
attribute [local go_sem] yields yUpon

def orB : Option ByteArray → ByteArray → Bool
 | none, _ => true
 | some q, n => Op.bytesLess q.toList n.toList
/-- Columns that may be, behind a name. -/
def csB : Option ByteArray → List Co → Bool
 | _, [] => true
 | p, c :: l => nameB c.name && orB p c.name && checkC c.cell.val c.cell.dead c.cell.at_ c.cell.fin && decide (0 < c.cell.at_) && csB (some c.name) l
def prevM (l : List Co) : Nat → Option ByteArray
 | 0 => none
 | k + 1 => (l[k]?).map (·.name)
/-- A row's own cells may be. -/
def hdB (r : Ro) : Bool := !decide (400 < (r.key.size : Int)) && checkC r.live.val r.live.dead r.live.at_ r.live.fin && (r.live.val.toList == []) && !r.live.dead && stampB r.gone && stampB r.shade && !decide (8 < (r.cols.length : Int))
/-- A row that may be. -/
def rwB (r : Ro) : Bool := hdB r && csB none r.cols

end Go.Proofs.YtolkhjdododdaaaGreatDoor

/- The reference's Check of partitions. (what a smaller cut has) -/
namespace Go.Proofs.YtolkhjdododdaaaGreatDoor
open Go Go.RowKit
attribute [local go_sem] yields yUpon ro8 pa3

def rsB : Option ByteArray → List Ro → Bool
 | _, [] => true
 | p, r :: l => rwB r && orB p r.key && rsB (some r.key) l
def ptB (k : ByteArray) (g : Int) (l : List Ro) : Bool := !decide (100 < (k.size : Int)) && !decide (g < 0) && !decide (1099511627776 < g) && !decide (100 < (l.length : Int)) && rsB none l
def prevR (l : List (Ro × Value)) : Nat → Option ByteArray
 | 0 => none
 | k + 1 => (l[k]?).map (·.1.key)
end Go.Proofs.YtolkhjdododdaaaGreatDoor

/- The reference's rows: Seen. (what a smaller cut has) -/
namespace Go.Proofs.YtolkhjdododdaaaGreatDoor
open Go Go.RowKit

end Go.Proofs.YtolkhjdododdaaaGreatDoor
