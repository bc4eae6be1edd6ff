/- cell.stamp, cell.Check. -/
import Derived.Test.YtkiodandnjbhoaaDoorCellOne
namespace Go.Proofs.YtkiodandnjbhoaaDoor
open Go Go.RowKit

set_option maxHeartbeats 400000 in
theorem stamp_any (v : Int) (w : World) : Calls Tryd.prog 83 #[.int .i64 v] w fun e w' => e = .returned (.bool (stampB v)) ∧ w = w' := by
  by_cases h : 0 ≤ v
  all_goals
    go_enter Tryd.func83, Tryd.ntmps83
    go_wp2
    go_ret
    exact ⟨by unfold stampB; simp [h] <;> omega, rfl⟩

set_option maxHeartbeats 400000 in
theorem check_any (v : ByteArray) (d : Bool) (a e : Int) (w : World) :
    Calls Tryd.prog 53 #[.agg #[.string v, .bool d, .int .i64 a, .int .i64 e]] w fun r w' =>
      r = .returned (.bool (checkC v d a e)) ∧ Ext w w' := by
  go_enter Tryd.func53, Tryd.ntmps53
  cases h1 : stampB a <;> cases h2 : stampB e
  all_goals
    go_wp2_with (go_at_call 83; go_must (refine (stamp_any _ _).mono ?_); rintro r w1 ⟨rfl, rfl⟩)
  all_goals
    go_ret
    refine ⟨?_, (Ext.refl w).alloc _⟩
    refine ret_bool ?_
    go_light
    simp_all [checkC] <;> omega
end Go.Proofs.YtkiodandnjbhoaaDoor
