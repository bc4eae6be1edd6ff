/- A cell that comes in, read. -/
import Derived.Test.YtiaoplehamjbkaaCellCl
import Derived.Test.YtiaoplehamjbkaaRows
import Derived.ProofKit
import Derived.Lib.SmallJoins
namespace Go.Proofs.Ytiaoplehamjbkaa
open Go Go.RowKit Go.ChangeShapes Go.WideShapes Go.ChangeAt

theorem cells_Cell : Try.prog.cellsOf 34 = 4 := by kernel_rfl
theorem read_cell {H : Type} {enc : TypeId × Value → H} {W : World} {base : Nat} {v : Value} {d : DataW H} {p : List MemPlace} (hv : Value.okWide Try.prog W .any base 34 v)
    (h : DataW.Trod enc Try.prog W 0 (fun _ => true) true 34 v d p) : ∃ c : Cl, v = (.agg #[.string c.val, .bool c.dead, .int .i64 c.at_, .int .i64 c.fin]) := by
  obtain ⟨c0, c1, c2, c3, y0, y1, y2, y3, m, rfl, _, _, h0, h1, h2, h3⟩ := Go.Joins.open_agg4 Try.underlying34 (by kernel_rfl) cells_Cell hv h
  obtain ⟨s, e0, rfl, _⟩ := DataW.trod_string Try.underlying9 h0
  obtain ⟨b, e1, rfl, _⟩ := DataW.trod_bool Try.underlying4 h1
  obtain ⟨n, e2, rfl, _⟩ := DataW.trod_int Try.underlying3 h2
  obtain ⟨k, e3, rfl, _⟩ := DataW.trod_int Try.underlying3 h3
  simp at e0 e1 e2 e3
  subst e0 e1 e2 e3
  exact ⟨⟨s, b, n, k⟩, rfl⟩
end Go.Proofs.Ytiaoplehamjbkaa
