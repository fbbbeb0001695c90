/- Contract: wharfagelaw17.Code answers as plan.Check, of an instance that may be. -/
import Derived.Deep.DeepCutAuto
import Derived.BigRegion
import Derived.Test.YtabadfkikdefeaaP8
set_option linter.all false
set_option maxRecDepth 100000
set_option maxHeartbeats 6400000
namespace Go.Proofs.Ytabadfkikdefeaa
open Go.RowKit
structure dx7 (w0:World) (gd gl:Nat) (ic pc:List Value) (dr lo sv:List Int) (w:World):Prop where
 inst:Row w w0.heap.size 49 ic
 plan:Row w (w0.heap.size + 1) 25 pc
 serv:Row w (w0.heap.size + 2) 3 (sv.map gb7)
 drop:Row w gd 2 (dr.map gb7)
 load:Row w gl 2 (lo.map gb7)
 bel:Below w0.heap.size w0 w
 ne:gd ≠ gl ∧ w0.heap.size + 2 < gd ∧ w0.heap.size + 2 < gl
theorem dx7.below {w0:World} {gd gl:Nat} {ic pc:List Value} {dr lo sv:List Int} {w w':World} (h:dx7 w0 gd gl ic pc dr lo sv w) (hb:Below w.heap.size w w'):dx7 w0 gd gl ic pc dr lo sv w' :=
 ⟨h.inst.below hb,h.plan.below hb,h.serv.below hb,h.drop.below hb,h.load.below hb,ca7 h.bel hb,h.ne⟩
theorem dx7.alloc {w0:World} {gd gl:Nat} {ic pc:List Value} {dr lo sv:List Int} {w:World} (h:dx7 w0 gd gl ic pc dr lo sv w) (o:Obj):dx7 w0 gd gl ic pc dr lo sv (w.alloc o):=h.below ((Below.refl _ _).alloc (Nat.le_refl _) _)
theorem dx7.drew {w0:World} {gd gl:Nat} {ic pc:List Value} {dr lo sv:List Int} {w:World} (h:dx7 w0 gd gl ic pc dr lo sv w):dx7 w0 gd gl ic pc dr lo sv w.drew:=h.below (Below.refl _ _).drew
end Go.Proofs.Ytabadfkikdefeaa
