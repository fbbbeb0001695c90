/- Contract: wharfagelaw17.Draft. -/
import Derived.Deep.DeepCutAuto
import Derived.BigRegion
import Derived.BigQuiet
import Derived.Test.YtabadfkikdefeaaGreatP4
set_option linter.all false
set_option maxRecDepth 100000
set_option maxHeartbeats 6400000

