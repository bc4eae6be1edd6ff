/- Rows by numbers: L.Cell whatever numbers are left; Names. -/
import Derived.Test.YtkiodandnjbhoaaDoorRegionE
import Derived.Test.YtkiodandnjbhoaaDoorRowSeen
import Derived.Test.YtkiodandnjbhoaaDoorGen
namespace Go.Proofs.YtkiodandnjbhoaaDoor
open Go Go.RowKit
attribute [local go_sem] yields yUpon

theorem next_nil (p : Nat) (w : World) (hv : BoxAt w p #[.slice none 0 0] 62) (n : Int) :
    Calls Tryd.prog 74 #[.pointer (some ⟨p, 0, none⟩), .int .i64 n] w fun e w' => e = .returned (.int .i64 0) ∧ w = w' := by
  have c0 := hv.cell 0
  simp at c0
  go_enter Tryd.func74, Tryd.ntmps74
  go_wp2
  go_ret
  exact ⟨rfl, rfl⟩
theorem next_nil' (W : World) (p : Nat) (v : Value) (hin : IntsIn W v .i64 []) (w : World) (hv : BoxAt w p #[v] 62) (n : Int) :
    Calls Tryd.prog 74 #[.pointer (some ⟨p, 0, none⟩), .int .i64 n] w fun e w' => e = .returned (.int .i64 0) ∧ w = w' := by
  obtain ⟨a, c, rfl, hc, hcm, ha⟩ := hin.block
  have c0 := hv.cell 0
  simp at c0
  go_enter Tryd.func74, Tryd.ntmps74
  go_wp2
  go_ret
  exact ⟨rfl, rfl⟩

set_option maxHeartbeats 1000000 in
theorem lcell_nil (W : World) (p : Nat) (v : Value) (hin : IntsIn W v .i64 []) (w : World) (hv : BoxAt w p #[v] 62) :
    Calls Tryd.prog 75 #[.pointer (some ⟨p, 0, none⟩)] w fun e w' => e = .returned (.agg #[.string (cellN 0).val, .bool (cellN 0).dead, .int .i64 (cellN 0).at_, .int .i64 (cellN 0).fin]) ∧ Ext w w' := by
  go_enter Tryd.func75, Tryd.ntmps75
  go_wp2_with fail
  refine (next_nil' W p v hin _ (hv.ext ((Ext.refl _).alloc _)) _).mono ?_
  rintro e w1 ⟨rfl, rfl⟩
  go_wp2
  refine bodyPost_ret (v := (.agg #[.string (cellN 0).val, .bool (cellN 0).dead, .int .i64 (cellN 0).at_, .int .i64 (cellN 0).fin])) (by simp [results, Tryd.results75, go_sem, cellN]) rfl ⟨rfl, ((Ext.refl _).alloc _).alloc _⟩

/-- The numbers that are left: any. -/
def LeftIn (W w : World) (p : Nat) : Prop := ∃ v l, BoxAt w p #[v] 62 ∧ IntsIn W v .i64 l

theorem lcell_ex (W : World) (p : Nat) (hp : W.heap.size ≤ p) (w : World) (hE : Ext W w) (hL : LeftIn W w p) :
    Calls Tryd.prog 75 #[.pointer (some ⟨p, 0, none⟩)] w fun e w' => ∃ n : Int, 0 ≤ n ∧ e = .returned (.agg #[.string (cellN n).val, .bool (cellN n).dead, .int .i64 (cellN n).at_, .int .i64 (cellN n).fin]) ∧ w.grownBy w' (some p) ∧ LeftIn W w' p := by
  obtain ⟨v, l, hv, hin⟩ := hL
  cases l with
  | nil =>
    refine (lcell_nil W p v hin w hv).mono ?_
    rintro e w' ⟨rfl, hX⟩
    exact ⟨0, Int.le_refl 0, rfl, grownBy_ext (grownBy_refl w _) hX, v, [], hv.ext hX, hin⟩
  | cons x l =>
    refine (lcell_any W p hp v x l hin w hE hv).mono ?_
    rintro e w' ⟨rfl, v', hX, hin'⟩
    exact ⟨x % 1048576, by omega, rfl, grownBy_ext (grownBy_set p v') hX, v', l, (hv.set 0 v').ext hX, hin'⟩
theorem next_ex (W : World) (p : Nat) (hp : W.heap.size ≤ p) (w : World) (hE : Ext W w) (hL : LeftIn W w p) :
    Calls Tryd.prog 74 #[.pointer (some ⟨p, 0, none⟩), .int .i64 1048576] w fun e w' => ∃ n : Int, 0 ≤ n ∧ n < 1048576 ∧ e = .returned (.int .i64 n) ∧ w.grownBy w' (some p) ∧ LeftIn W w' p := by
  obtain ⟨v, l, hv, hin⟩ := hL
  refine (next_gen W p hp v l hin 1048576 (by omega) (by omega) w hE hv).mono ?_
  rintro e w' ⟨rfl, hg, v', hb, hin'⟩
  refine ⟨nextN l 1048576, ?_, ?_, rfl, hg, v', l.tail, hb, hin'⟩
  · cases l with
    | nil => exact Int.le_refl 0
    | cons x l => show 0 ≤ x % 1048576; omega
  · cases l with
    | nil => show (0 : Int) < 1048576; omega
    | cons x l => show x % 1048576 < 1048576; omega

/-- The names of columns. -/
def nm4 : Array Value := #[.string ⟨#[97]⟩, .string ⟨#[98]⟩, .string ⟨#[99]⟩, .string ⟨#[100]⟩]
set_option maxHeartbeats 1000000 in
theorem names_any (w : World) :
    Calls Tryd.prog 34 #[] w fun e w' => e = .returned (.slice (some ⟨w.heap.size, 0, none⟩) 4 4) ∧ w' = w.alloc (.cells nm4 9) := by
  go_enter Tryd.func34, Tryd.ntmps34
  go_wp2
  go_ret
  exact ⟨rfl, rfl⟩

def nmK : Nat → ByteArray
  | 0 => ⟨#[97]⟩
  | 1 => ⟨#[98]⟩
  | 2 => ⟨#[99]⟩
  | _ => ⟨#[100]⟩
/-- Columns by numbers, of the first so many names. -/
inductive GenCols : Nat → List Co → Prop
  | nil : GenCols 0 []
  | skip {k l} : GenCols k l → GenCols (k + 1) l
  | put {k l} {n : Int} : GenCols k l → 0 ≤ n → GenCols (k + 1) (l ++ [⟨nmK k, cellN n⟩])
theorem GenCols.len {k : Nat} {l : List Co} (h : GenCols k l) : l.length ≤ k := by
  induction h with
  | nil => exact Nat.le_refl 0
  | skip _ ih => omega
  | put _ _ ih => simp; omega
end Go.Proofs.YtkiodandnjbhoaaDoor
