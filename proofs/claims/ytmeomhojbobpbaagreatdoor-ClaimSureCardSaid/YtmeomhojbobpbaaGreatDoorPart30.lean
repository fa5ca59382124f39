import Derived.Test.YtmeomhojbobpbaaGreatDoorPart03
import Derived.Test.YtmeomhojbobpbaaGreatDoorPart02
import Derived.Test.YtmeomhojbobpbaaGreatDoorPart05
/-
  Walk: why a record is refused behind others.
-/
namespace Go.Proofs.YtmeomhojbobpbaaGreatDoor
open Go.RowKit Lg Go.Sort Go.Shelf

end Go.Proofs.YtmeomhojbobpbaaGreatDoor
