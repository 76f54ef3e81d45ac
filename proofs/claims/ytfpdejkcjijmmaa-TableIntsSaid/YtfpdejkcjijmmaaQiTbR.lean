/- The laws on tables, together (seat T). -/
import Derived.Test.YtfpdejkcjijmmaaQiTbN
import Derived.Test.YtfpdejkcjijmmaaQiTbO
import Derived.Test.YtfpdejkcjijmmaaQiTbP
import Derived.Test.YtfpdejkcjijmmaaQiTbQ
