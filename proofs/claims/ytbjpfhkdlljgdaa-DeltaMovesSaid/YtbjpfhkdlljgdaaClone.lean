/- slices.Clone of columns; delta.cellOf. -/
import Derived.Test.YtbjpfhkdlljgdaaPickOf
import Derived.Test.YtbjpfhkdlljgdaaRowsIn
import Derived.Lib.SliceRun
namespace Go.Proofs.Ytbjpfhkdlljgdaa
open Go Go.RowKit
attribute [local go_sem] yields yUpon ro8 pa3 vw5 cl4

set_option maxRecDepth 100000 in
set_option maxHeartbeats 2000000 in
theorem clone_any (v : Value) (l : List Co) (w : World) (hin : ColsIn w v l) (hl : l.length ≤ 1000000) :
    Calls Try.prog 65 #[v] w fun e w' => ∃ v', e = .returned v' ∧ w'.ownsRow w.heap.size 62 5 v' l.length (coCells l) ∧ Ext w w' := by
  have hin0 := hin
  obtain ⟨a, c, rfl, hc, hcm, ha, _⟩ := hin
  have he := Lib.run_eql_slice_nil (P := Try.prog) w 32 62 a l.length c 0 0 und_Cols
  cases a with
  | none =>
    have hc0 := ha rfl
    obtain rfl : l = [] := List.eq_nil_of_length_eq_zero (by omega)
    subst hc0
    clear ha
    go_enter Try.func65, Try.ntmps65
    go_wp2_with fail
    simp only [List.length_nil] at he
    rw [he]
    simp only [Result.andThen]
    rw [Oper.upon_value]
    go_wp2_with fail
    go_ret
    exact ⟨_, rfl, World.ownsRow_nil _ _ _ _, Ext.refl w⟩
  | some ad =>
    have hX := (Ext.refl w).alloc (.cells #[] 62)
    have hm : (w.alloc (.cells #[] 62)).ownsRow w.heap.size 62 5 (.slice (some ⟨w.heap.size, 0, none⟩) 0 0) ([] : List Co).length (coCells []) := World.ownsRow_made w #[] 0 (Nat.le_refl _) (Nat.zero_le _) rfl
    clear ha
    go_enter Try.func65, Try.ntmps65
    go_wp2_with (at_builtin; go_must (refine appCols (w.alloc (.cells #[] 62)) rfl (.tmp 5) (.tmp 6) rfl w.heap.size hX.le _ [] hm (by rfl) _ l (hin0.ext hX) (by rfl) (by simp; omega) ?_); intro v3 w3 hown3 hg3)
    go_ret
    exact ⟨_, rfl, hown3, hX.grown hg3 (fun q hq => (hm.lt q hq).1)⟩

/-- A row's cell of a view's column as its one column, if it has one. -/
def cellL (x : Vw) (r : Ro) : List Co := if (cellOf r.cols x.on).at_ < 1 then [] else [⟨x.on, cellOf r.cols x.on⟩]
set_option maxRecDepth 100000 in
set_option maxHeartbeats 2000000 in
theorem cellOf_any (x : Vw) (u : Value) (r : Ro) (v : Value) (w : World) (hin : ColsIn w v r.cols) :
    Calls Try.prog 88 #[.agg #[.string x.name, .int .i64 x.id, .string x.table, .string x.on, u], (.agg #[.string r.key, .string r.live.val, .bool r.live.dead, .int .i64 r.live.at_, .int .i64 r.live.fin, .int .i64 r.gone, .int .i64 r.shade, v])] w fun e w' => ∃ a c, e = .returned (.slice a (cellL x r).length c) ∧ ColsT w' (.slice a (cellL x r).length c) (cellL x r) ∧ Ext w w' := by
  obtain ⟨a0, a1, hE⟩ := boxes2 w (vw5 x u) (ro8 r v) 46 34
  have hin' := hin.ext hE
  obtain ⟨c, hc⟩ : ∃ c, c = cellOf r.cols x.on := ⟨_, rfl⟩
  have hL : cellL x r = if c.at_ < 1 then [] else [⟨x.on, c⟩] := by rw [hc]; rfl
  have Hc := Lib.hid hc
  have HL := Lib.hid hL
  clear hc hL
  go_enter Try.func88, Try.ntmps88
  go_wp2_with fail
  refine (rcell_any r v x.on _ hin').mono ?_
  rw [← Hc.out]
  rintro e w1 ⟨rfl, hE1⟩
  have y := (a0.ext hE1).allocs
  have hX := (hE.trans hE1).alloc (.cells (cl4 c) 31)
  clear a0 a1 hE hE1 hin hin'
  cases d : decide (c.at_ < 1)
  · have e1 : cellL x r = [⟨x.on, c⟩] := by rw [HL.out, if_neg (by simpa using d)]
    have HE := Lib.hid e1
    clear e1
    go_wp2_with fail
    go_ret
    rw [HE.out]
    refine ⟨_, _, rfl, ?_, hX.alloc _⟩
    exact TIn.box (xs := coCells [⟨x.on, c⟩]) (BoxAt.madeN (co5 ⟨x.on, c⟩) 62 (by simp)) (by unfold maxLen; show 1 ≤ 2 ^ 63 - 1; decide)
  · have e1 : cellL x r = [] := by rw [HL.out, if_pos (by simpa using d)]
    have HE := Lib.hid e1
    clear e1
    go_wp2_with fail
    go_ret
    rw [HE.out]
    exact ⟨_, _, rfl, ColsT.nil _, hX⟩
end Go.Proofs.Ytbjpfhkdlljgdaa
