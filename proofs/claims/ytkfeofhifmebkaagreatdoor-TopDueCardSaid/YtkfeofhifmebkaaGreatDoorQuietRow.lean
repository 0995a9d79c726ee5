/- Whole structs in a region that draws its order. -/
import Derived.Test.YtkfeofhifmebkaaGreatDoorStr
import Derived.Test.YtkfeofhifmebkaaGreatDoorQuiet
namespace Go.Proofs.YtkfeofhifmebkaaGreatDoor
open Go.RowKit

end Go.Proofs.YtkfeofhifmebkaaGreatDoor
