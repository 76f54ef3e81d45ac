/- The laws on tables, together (seat T). -/
import Derived.Test.YtfpdejkcjijmmaaQdTbN
import Derived.Test.YtfpdejkcjijmmaaQdTbO
import Derived.Test.YtfpdejkcjijmmaaQdTbP
import Derived.Test.YtfpdejkcjijmmaaQdTbQ
