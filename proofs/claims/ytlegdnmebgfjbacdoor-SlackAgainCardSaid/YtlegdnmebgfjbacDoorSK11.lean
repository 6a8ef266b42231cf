/- The reference's CheckAll. -/
import Derived.Test.YtlegdnmebgfjbacDoorSK10
set_option linter.all false
set_option maxRecDepth 2000
set_option maxHeartbeats 8000000
namespace Go.Proofs.Vl
open Go Go.RowKit
attribute [local irreducible] AWp OpTo Run DL Val UN DR AC Le thn inb nog
abbrev gotP (at_ e : Int) : List PV := [.s (.int .i64 at_), .s (.int .i64 e)]
end Go.Proofs.Vl
