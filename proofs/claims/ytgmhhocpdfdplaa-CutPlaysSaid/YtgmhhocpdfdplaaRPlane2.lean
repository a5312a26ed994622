/- The reference's functions on planes: Inside, Within. -/
import Derived.Test.YtgmhhocpdfdplaaRPlane
import Derived.Test.YtgmhhocpdfdplaaGB
namespace Go.Proofs.Ytgmhhocpdfdplaa
open Go.RowKit
set_option maxRecDepth 100000
set_option maxHeartbeats 4000000
namespace Pl
/-- Is a place in a rectangle? -/
def insB (a b h d row col : Int) : Bool := decide (a ≤ row ∧ b ≤ col ∧ row - a < h ∧ col - b < d)
end Pl
end Go.Proofs.Ytgmhhocpdfdplaa
