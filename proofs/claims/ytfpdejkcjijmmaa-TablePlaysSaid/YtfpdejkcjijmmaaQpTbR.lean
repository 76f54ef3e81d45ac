/- The laws on tables, together (seat T). -/
import Derived.Test.YtfpdejkcjijmmaaQpTbN
import Derived.Test.YtfpdejkcjijmmaaQpTbP
import Derived.Test.YtfpdejkcjijmmaaQpTbQ
