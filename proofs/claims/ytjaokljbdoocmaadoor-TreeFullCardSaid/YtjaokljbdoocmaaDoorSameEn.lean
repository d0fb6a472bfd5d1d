/-
  The walk of SameEntries.
-/
import Derived.Test.YtjaokljbdoocmaaDoorLow
namespace Go.Proofs.YtjaokljbdoocmaaDoor
open Go.RowKit

instance decEn (a b : En) : Decidable (a = b) := inferInstance
instance decEns (a b : List En) : Decidable (a = b) := inferInstance

end Go.Proofs.YtjaokljbdoocmaaDoor
