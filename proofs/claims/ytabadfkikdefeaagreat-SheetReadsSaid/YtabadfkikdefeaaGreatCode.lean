/- Contract: wharfagelaw17.Code answers as plan.Check, of an instance that may be. -/
import Derived.Deep.DeepCutAuto
import Derived.BigRegion
import Derived.Test.YtabadfkikdefeaaGreatP8
set_option linter.all false
set_option maxRecDepth 100000
set_option maxHeartbeats 6400000
namespace Go.Proofs.YtabadfkikdefeaaGreat
open Go.RowKit
structure gcb7 (w0:World) (gd gl:Nat) (ic pc:List Value) (dr lo sv:List Int) (w:World):Prop where
 inst:Row w w0.heap.size 57 ic
 plan:Row w (w0.heap.size+1) 37 pc
 serv:Row w (w0.heap.size+2) 3 (sv.map ib7)
 drop:Row w gd 2 (dr.map ib7)
 load:Row w gl 2 (lo.map ib7)
 bel:Below w0.heap.size w0 w
 ne:gd≠gl∧w0.heap.size+2<gd∧w0.heap.size+2<gl
theorem gcb7.below {w0:World}{gd gl:Nat}{ic pc:List Value}{dr lo sv:List Int}{w w':World}(h:gcb7 w0 gd gl ic pc dr lo sv w) (hb:Below w.heap.size w w'):gcb7 w0 gd gl ic pc dr lo sv w' :=
 ⟨h.inst.below hb,h.plan.below hb,h.serv.below hb,h.drop.below hb,h.load.below hb,ca7 h.bel hb,h.ne⟩
theorem gcb7.alloc {w0:World}{gd gl:Nat}{ic pc:List Value}{dr lo sv:List Int}{w:World}(h:gcb7 w0 gd gl ic pc dr lo sv w) (o:Obj):gcb7 w0 gd gl ic pc dr lo sv (w.alloc o):=h.below ((Below.refl _ _).alloc (Nat.le_refl _) _)
theorem gcb7.drew {w0:World}{gd gl:Nat}{ic pc:List Value}{dr lo sv:List Int}{w:World}(h:gcb7 w0 gd gl ic pc dr lo sv w):gcb7 w0 gd gl ic pc dr lo sv w.drew:=h.below (Below.refl _ _).drew
end Go.Proofs.YtabadfkikdefeaaGreat
