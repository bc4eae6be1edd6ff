/- 'append' to a list of columns of one's own; row.Seen. -/
import Derived.Test.YtolkhjdododdaaaGreatDoorP7
import Derived.Test.YtolkhjdododdaaaGreatDoorP3
import Derived.Test.YtolkhjdododdaaaGreatDoorP5
import Derived.Test.YtolkhjdododdaaaGreatDoorP2
import Derived.Test.YtolkhjdododdaaaGreatDoorP6
set_option linter.unusedSimpArgs false
set_option linter.unusedVariables false


/- Lists of rows in memory; 'append' to such a list of one's own; rows' columns that stay while such a list grows. -/


/- Lists of partitions in memory, in blocks of their own type. -/


/- The type of a list of partitions (not every seat has it). -/

