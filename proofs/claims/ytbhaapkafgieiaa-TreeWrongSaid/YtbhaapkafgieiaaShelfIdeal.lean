import Derived.Shelf.Lay
import Derived.Shelf.LaySoft
import Derived.Shelf.SlGeneric
import Derived.Shelf.SlicesE.Index
import Derived.Shelf.SlicesE.Equal
import Derived.Ground.SlgnProg
import Derived.Test.YtbhaapkafgieiaaProg
namespace Go.Proofs
open Go.Shelf
shelf_tried
end Go.Proofs
