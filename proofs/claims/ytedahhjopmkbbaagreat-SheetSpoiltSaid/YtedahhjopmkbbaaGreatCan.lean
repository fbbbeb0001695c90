/- wharfagelaw18.Can, by the abstract machine. -/
import Derived.Test.YtedahhjopmkbbaaGreatR3
set_option linter.all false
set_option maxRecDepth 100000
set_option maxHeartbeats 6400000
namespace Go.Proofs.YtedahhjopmkbbaaGreat.Ab
open Go.RowKit
theorem odb7 {x:ca7}(g:Good x) {c:Int}(h:je7 x c):(0≤(fc7 x c).opn∧(fc7 x c).opn≤1000000000)∧0≤(fc7 x c).stay∧(fc7 x c).stay≤1000000000:=by
 unfold je7 at h
 have:=g.cust (fc7 x c) (mg7 (by omega) _)
 exact⟨this.2.1,this.2.2.2⟩
end Go.Proofs.YtedahhjopmkbbaaGreat.Ab
