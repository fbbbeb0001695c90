/- wharfagelaw18.Can, by the abstract machine. -/
import Derived.Test.YtabadfkikdefeaaGreatR3
set_option linter.all false
set_option maxRecDepth 100000
set_option maxHeartbeats 6400000

