/- The laws on tables, together (seat T). -/
import Derived.Test.YtfpdejkcjijmmaaQbTbN
import Derived.Test.YtfpdejkcjijmmaaQbTbO
import Derived.Test.YtfpdejkcjijmmaaQbTbP
import Derived.Test.YtfpdejkcjijmmaaQbTbQ
