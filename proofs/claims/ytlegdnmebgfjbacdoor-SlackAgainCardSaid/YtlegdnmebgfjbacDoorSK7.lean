/- The references' Word and Check (packages cadencyref03, cadencyref04) answer as the program's. -/
import Derived.Test.YtlegdnmebgfjbacDoorSK3
set_option linter.all false
set_option maxRecDepth 2000
set_option maxHeartbeats 8000000
namespace Go.Proofs.Vl
open Go Go.RowKit
attribute [local irreducible] AWp OpTo Run DL Val UN DR AC Le thn inb nog
def letR (c : Int) : Bool := (decide (97 ≤ c) && decide (c ≤ 122)) || (decide (65 ≤ c) && decide (c ≤ 90)) || c == 95
end Go.Proofs.Vl
