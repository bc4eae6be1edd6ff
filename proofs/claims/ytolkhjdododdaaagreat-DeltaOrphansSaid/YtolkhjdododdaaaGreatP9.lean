/- What makes things by numbers: L.Next, L.Cell. -/
import Derived.Test.YtolkhjdododdaaaGreatP4
import Derived.Test.YtolkhjdododdaaaGreatP7
import Derived.Test.YtolkhjdododdaaaGreatP3
import Derived.Test.YtolkhjdododdaaaGreatP1
import Derived.Test.YtolkhjdododdaaaGreatP2
import Derived.Test.YtolkhjdododdaaaGreatP6
import Derived.Test.YtolkhjdododdaaaGreatP5
import Derived.Test.YtolkhjdododdaaaGreatP8
set_option linter.unusedSimpArgs false
set_option linter.unusedVariables false


/- Rows by numbers: L.Cell whatever numbers are left; Names. -/


/- L.Row: a row by numbers. -/


/- L.Part: a partition by numbers. -/

