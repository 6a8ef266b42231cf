import Derived.Test.YtekkpgfklhhacaaJK2
set_option linter.all false
set_option maxRecDepth 2000
set_option maxHeartbeats 8000000
namespace Go.Proofs.Vl
open Go Go.RowKit
attribute [local irreducible] AWp OpTo Run DL Val UN DR AC Le thn inb nog
def chkI (nm : ByteArray) (c t d j q p : Int) : Int := if rngB nm c t d j q p then if fitB c t d j q then 0 else 12 else 11
end Go.Proofs.Vl
