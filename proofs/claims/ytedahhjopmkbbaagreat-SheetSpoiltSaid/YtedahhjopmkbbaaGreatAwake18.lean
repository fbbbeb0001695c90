/- Contract: wharfagelaw18.Awake answers true. -/
import Derived.Test.YtedahhjopmkbbaaGreatP7
set_option linter.all false
set_option maxRecDepth 100000
set_option maxHeartbeats 6400000

