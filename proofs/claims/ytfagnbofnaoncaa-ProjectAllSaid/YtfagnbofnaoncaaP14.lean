/- The type of a list of partitions (not every seat has it). -/
import Derived.Test.YtfagnbofnaoncaaP13
import Derived.Test.YtfagnbofnaoncaaP11
import Derived.Test.YtfagnbofnaoncaaP10
import Derived.Test.YtfagnbofnaoncaaP8
import Derived.Test.YtfagnbofnaoncaaP2
import Derived.Test.YtfagnbofnaoncaaP5
import Derived.Test.YtfagnbofnaoncaaP1
set_option linter.unusedSimpArgs false
set_option linter.unusedVariables false
namespace Go.Proofs.Ytfagnbofnaoncaa
open Go Go.RowKit
theorem und_Parts : Try.prog.underlying 52 = some (.slice 27) := by kernel_rfl
end Go.Proofs.Ytfagnbofnaoncaa

/- Lists of partitions in memory, in blocks of their own type. -/


/- The type of a list of partitions (not every seat has it). -/


/- What makes things by numbers: L.Next, L.Cell. -/

