/-
  The library's contracts at this program's own numbers, laid by the kit's lay-plain.
-/
import Derived.Shelf.Lay
import Derived.Shelf.LaySoft
import Derived.Shelf.SlIter.Nil
import Derived.Shelf.SlIterI.Nil
import Derived.Shelf.SortM.Plain
import Derived.Shelf.SortM.SortNone
import Derived.Ground.GgzProg
import Derived.Ground.SlgmProg
import Derived.Shelf.SlMaps.Clone
import Derived.Ground.SlmcProg
import Derived.Test.YtjaokljbdoocmaaDoorProg
namespace Go.Proofs
open Go.Shelf

shelf_tried
end Go.Proofs
