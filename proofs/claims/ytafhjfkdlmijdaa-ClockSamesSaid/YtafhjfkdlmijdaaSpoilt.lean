/- Contract: wharfagelaw17.Spoilt. -/
import Derived.Deep.CutBlock
import Derived.BigRegion
import Derived.Test.YtafhjfkdlmijdaaP4
set_option linter.all false
namespace Go.Proofs.Ytafhjfkdlmijdaa
open Go.RowKit
def AnyW (_ : World) : Prop := True
end Go.Proofs.Ytafhjfkdlmijdaa
