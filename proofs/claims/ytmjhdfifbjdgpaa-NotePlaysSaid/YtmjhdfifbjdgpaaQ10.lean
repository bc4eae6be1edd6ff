/- Place: any number as one below another. -/
import Derived.Test.YtmjhdfifbjdgpaaQ1
import Derived.Test.YtmjhdfifbjdgpaaQ9
import Derived.Test.YtmjhdfifbjdgpaaProg
set_option linter.unusedSimpArgs false
set_option linter.unusedVariables false
namespace Go.Proofs.Ytmjhdfifbjdgpaa
open Go Go.RowKit

set_option maxHeartbeats 400000 in
theorem place_any (v n : Int) (h : 1 ≤ n) (hn : n ≤ 9223372036854775807) (w : World) :
    Calls Try.prog 9 #[.int .i64 v, .int .i64 n] w fun e w' => e = .returned (.int .i64 (v % n)) ∧ w = w' := by
  have hlo := (tmod_lo (v := v) h).1
  have hhi := (tmod_lo (v := v) h).2
  by_cases h0 : v.tmod n < 0
  · have HE := Lib.hid (tmod_neg h h0)
    go_enter Try.func9, Try.ntmps9
    go_wp2
    go_ret
    exact ⟨ret_int HE.out, rfl⟩
  · have h0' : 0 ≤ v.tmod n := by omega
    have HE := Lib.hid (tmod_pos h h0')
    go_enter Try.func9, Try.ntmps9
    go_wp2
    go_ret
    exact ⟨ret_int HE.out, rfl⟩

end Go.Proofs.Ytmjhdfifbjdgpaa
