/- Contract: order.Late, of a graph whose arcs lead forward. -/
import Derived.Laws.CopyRow
import Derived.Laws.CopyOwn
import Derived.BigRegion
import Derived.Test.YtedahhjopmkbbaaGreatTopo
set_option linter.all false
set_option maxRecDepth 100000
set_option maxHeartbeats 6400000

