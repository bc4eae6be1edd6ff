/- The two tables of unicode/utf8, out of what the rows lay. -/
import Derived.Test.YtimbikbbbfpeeaaGreatDoorRows
import Derived.Test.YtimbikbbbfpeeaaGreatDoorP25
import Derived.Lib.LaidU8T
import Derived.MakeChecks
import Derived.KernelRfl
set_option linter.unusedSimpArgs false
set_option linter.unusedVariables false
namespace Go.Proofs.YtimbikbbbfpeeaaGreatDoor
open Go.Lib

theorem u8types : U8Types Tryz.prog Tryz.lays197_ren := { t5 := Tryz.underlying5, t119 := by kernel_rfl, t138 := by kernel_rfl, t139 := by kernel_rfl }
theorem u8extra : U8Extra Tryz.prog Tryz.lays197_ren := by constructor <;> kernel_rfl
theorem first_eq : Rows.laid_unicode_utf8_first = firstData := by kernel_rfl
theorem accept_eq : (Rows.laid_unicode_utf8_acceptRanges : DataW Unit) = acceptData := by kernel_rfl
theorem tabU_of {w : World} (h : laidMetH Tryz.prog [("unicode/utf8.acceptRanges", Rows.laid_unicode_utf8_acceptRanges), ("unicode/utf8.first", Rows.laid_unicode_utf8_first)] w) : TabU w := by
  rw [MakeChecks.laidMetH_plain _ _ _ (by kernel_rfl)] at h
  have h3 : VarReads Tryz.prog w "unicode/utf8.first" firstData := by rw [← first_eq]; exact Go.Lib.laidMet.reads h (by simp)
  have h4 : VarReads Tryz.prog w "unicode/utf8.acceptRanges" acceptData := by rw [← accept_eq]; exact Go.Lib.laidMet.reads h (by simp)
  exact utf8Tabs_of_readsT u8types u8extra h3 h4
end Go.Proofs.YtimbikbbbfpeeaaGreatDoor
