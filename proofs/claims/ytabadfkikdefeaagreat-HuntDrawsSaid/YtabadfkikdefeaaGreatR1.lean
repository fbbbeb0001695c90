/- The package's variables that are read: none here (a seat with some has a text of its own). -/
import Derived.Test.YtabadfkikdefeaaGreatQ1
set_option linter.all false
set_option maxRecDepth 100000
set_option maxHeartbeats 6400000
namespace Go.Proofs.YtabadfkikdefeaaGreat.Ab
open Go.RowKit
def glV (_:Nat):Option AV:=none
def jg7 (_:World):Prop:=True
theorem jg7.below {w w':World}(_:jg7 w) (_:Below w.heap.size w w'):jg7 w':=trivial
end Go.Proofs.YtabadfkikdefeaaGreat.Ab
