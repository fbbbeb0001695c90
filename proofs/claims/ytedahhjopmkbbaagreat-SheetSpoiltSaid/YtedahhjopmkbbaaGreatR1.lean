/- The package's variables that are read: none here (a seat with some has a text of its own). -/
import Derived.Test.YtedahhjopmkbbaaGreatQ1
set_option linter.all false
set_option maxRecDepth 100000
set_option maxHeartbeats 6400000
namespace Go.Proofs.YtedahhjopmkbbaaGreat.Ab
open Go.RowKit
def glV (_:Nat):Option AV:=none
def ko7 (_:World):Prop:=True
theorem ko7.below {w w':World}(_:ko7 w) (_:Below w.heap.size w w'):ko7 w':=trivial
end Go.Proofs.YtedahhjopmkbbaaGreat.Ab
