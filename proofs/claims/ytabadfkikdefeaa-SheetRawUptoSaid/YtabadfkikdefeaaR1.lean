/- The package's variables that are read: none here (a seat with some has a text of its own). -/
import Derived.Test.YtabadfkikdefeaaQ1
set_option linter.all false
set_option maxRecDepth 100000
set_option maxHeartbeats 6400000
namespace Go.Proofs.Ytabadfkikdefeaa.Ab
open Go.RowKit
def glV (_:Nat):Option AV:=none
def oeb7 (_:World):Prop:=True
theorem oeb7.below {w w':World} (_:oeb7 w) (_:Below w.heap.size w w'):oeb7 w':=trivial
end Go.Proofs.Ytabadfkikdefeaa.Ab
