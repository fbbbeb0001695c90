/- Contracts: container/heap over a pile's row: whatever they do, the things stay the same. -/
import Derived.Test.YtedahhjopmkbbaaGreatPile
set_option linter.all false
set_option maxRecDepth 100000
set_option maxHeartbeats 6400000
namespace Go.Proofs.YtedahhjopmkbbaaGreat
open Go.RowKit
section
variable {w:World} {q:Nat} {a:Option Addr} {n c:Nat}
end
theorem di7.drewN {w:World}{B q:Nat}{l:List dm7}(h:di7 w B q l) (n:Nat):di7 (w.drewN n) B q l:=h
theorem di7.drew {w:World}{B q:Nat}{l:List dm7}(h:di7 w B q l):di7 w.drew B q l:=h
theorem zg7.drewN {B:Nat}{w w':World}(h:zg7 B w w') (n:Nat):zg7 B w (w'.drewN n):=⟨below_drewN h.bel n,h.old⟩
end Go.Proofs.YtedahhjopmkbbaaGreat
