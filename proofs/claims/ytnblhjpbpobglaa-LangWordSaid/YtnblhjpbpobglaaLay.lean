import Derived.Test.YtnblhjpbpobglaaCode
import Derived.Test.YtnblhjpbpobglaaAmV
import Derived.Shelf.Lay
set_option maxRecDepth 100000
namespace Go.Proofs
open Go.Shelf
shelf_lay Lays.n189 Nm 189 at Try as Try.lays189
shelf_lay_g Lays8.n4 Nm8 4 at Try 71 as Try.growI
end Go.Proofs
