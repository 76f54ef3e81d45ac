/- The laws on tables, together (seat T). -/
import Derived.Test.YtfpdejkcjijmmaaQsTbN
import Derived.Test.YtfpdejkcjijmmaaQsTbO
import Derived.Test.YtfpdejkcjijmmaaQsTbP
import Derived.Test.YtfpdejkcjijmmaaQsTbQ
