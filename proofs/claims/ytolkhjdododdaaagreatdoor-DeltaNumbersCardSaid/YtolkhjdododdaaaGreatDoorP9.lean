/- What makes things by numbers: L.Next, L.Cell. -/
import Derived.Test.YtolkhjdododdaaaGreatDoorP4
import Derived.Test.YtolkhjdododdaaaGreatDoorP7
import Derived.Test.YtolkhjdododdaaaGreatDoorP3
import Derived.Test.YtolkhjdododdaaaGreatDoorP1
import Derived.Test.YtolkhjdododdaaaGreatDoorP2
import Derived.Test.YtolkhjdododdaaaGreatDoorP6
import Derived.Test.YtolkhjdododdaaaGreatDoorP5
import Derived.Test.YtolkhjdododdaaaGreatDoorP8
set_option linter.unusedSimpArgs false
set_option linter.unusedVariables false


/- Rows by numbers: L.Cell whatever numbers are left; Names. -/


/- L.Row: a row by numbers. -/


/- L.Part: a partition by numbers. -/

