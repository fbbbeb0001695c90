/- Contract: order.Sort, of a graph whose arcs lead forward: each node once, behind all that lead to it. -/
import Derived.Test.YtedahhjopmkbbaaGreatP6
set_option linter.all false
set_option maxRecDepth 100000
set_option maxHeartbeats 6400000
namespace Go.Proofs.YtedahhjopmkbbaaGreat
open Go.RowKit
structure SSt (w0:World) (gin B q:Nat) (a:Option Addr) (c:Nat) (g:bb7) (ins:List Int) (l:List dm7) (w:World):Prop where
 graph:Row w w0.heap.size 170 [.int .i64 (g.n:Int),.slice a g.arcs.length c]
 inn:Row w gin 3 (ins.map jc7)
 pile:di7 w B q l
 bel:Below w0.heap.size w0 w
 ord:w0.heap.size<gin∧gin<B
section
variable {w0:World} {gin B q:Nat} {a:Option Addr} {c:Nat} {g:bb7} {ins:List Int} {l l':List dm7} {w w':World}
theorem SSt.below (h:SSt w0 gin B q a c g ins l w) (hb:Below w.heap.size w w'):SSt w0 gin B q a c g ins l w':=⟨h.graph.below hb,h.inn.below hb,h.pile.below hb,pa7 h.bel hb,h.ord⟩
theorem SSt.keep (h:SSt w0 gin B q a c g ins l w) (hK:zg7 B w w') (hP:di7 w' B q l'):SSt w0 gin B q a c g ins l' w' :=
 ⟨hK.row h.graph (by decide) (by decide),hK.row h.inn (by decide) (by decide),hP,h.bel.trans (hK.bel.mono (by have:=h.ord;omega)),h.ord⟩
theorem Apart.new (h:SSt w0 gin B q a c g ins l w) (e:TypeId) (cs:List Value):Apart (w.alloc (.cells cs.toArray e)) q w.heap.size e cs:=by
 obtain⟨v',R,O,hq'⟩:=h.pile
 have hl:=R.lt
 refine⟨Row.new rfl,by omega,fun u hu e'=>?_⟩
 have h1:=(R.alloc (.cells cs.toArray e)).cell (j:=0) (by simp)
 rw[h1]at hu
 obtain rfl:=Option.some.inj hu
 have:=(O.lt _ e').2
 omega
end
end Go.Proofs.YtedahhjopmkbbaaGreat
