/- The walks of Quiet, of the laws' Do, known of layer 10, and the law ScanNil. -/
import Derived.Test.YtefippjakkgjkaaDoorScanB
import Derived.Test.YtefippjakkgjkaaDoorSectE
namespace Go.Proofs.YtefippjakkgjkaaDoor
open Go.RowKit Go.Shelf

theorem quiets_cons (S : SSt) (c : ScSt) (r : Int) (l : List Int) : quiets S c (r :: l) = ((quiets S (look S c r) l).1, (quiets S (look S c r) l).2 + (if lookB S c r = true then 1 else 0)) := rfl
end Go.Proofs.YtefippjakkgjkaaDoor
