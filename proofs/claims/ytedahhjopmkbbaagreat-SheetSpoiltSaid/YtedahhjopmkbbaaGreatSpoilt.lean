/- Contract: wharfagelaw17.Spoilt. -/
import Derived.Deep.CutBlock
import Derived.BigRegion
import Derived.Test.YtedahhjopmkbbaaGreatP3
set_option linter.all false
set_option maxRecDepth 100000
set_option maxHeartbeats 6400000

