/- Contract: wharfagelaw17.Code answers as plan.Check, of an instance that may be. -/
import Derived.Deep.DeepCutAuto
import Derived.BigRegion
import Derived.Test.YtabadfkikdefeaaGreatP4
set_option linter.all false
set_option maxRecDepth 100000
set_option maxHeartbeats 6400000
namespace Go.Proofs.YtabadfkikdefeaaGreat
open Go.RowKit
structure CRows (w0 : World) (gd gl : Nat) (ic pc : List Value) (dr lo sv : List Int) (w : World) : Prop where
 inst : Row w w0.heap.size 57 ic
 plan : Row w (w0.heap.size + 1) 37 pc
 serv : Row w (w0.heap.size + 2) 3 (sv.map intV)
 drop : Row w gd 2 (dr.map intV)
 load : Row w gl 2 (lo.map intV)
 bel : Below w0.heap.size w0 w
 ne : gd ≠ gl ∧ w0.heap.size + 2 < gd ∧ w0.heap.size + 2 < gl
theorem CRows.below {w0 : World} {gd gl : Nat} {ic pc : List Value} {dr lo sv : List Int} {w w' : World} (h : CRows w0 gd gl ic pc dr lo sv w) (hb : Below w.heap.size w w') : CRows w0 gd gl ic pc dr lo sv w' :=
 ⟨h.inst.below hb, h.plan.below hb, h.serv.below hb, h.drop.below hb, h.load.below hb, below_step h.bel hb, h.ne⟩
theorem CRows.alloc {w0 : World} {gd gl : Nat} {ic pc : List Value} {dr lo sv : List Int} {w : World} (h : CRows w0 gd gl ic pc dr lo sv w) (o : Obj) : CRows w0 gd gl ic pc dr lo sv (w.alloc o) := h.below ((Below.refl _ _).alloc (Nat.le_refl _) _)
theorem CRows.drew {w0 : World} {gd gl : Nat} {ic pc : List Value} {dr lo sv : List Int} {w : World} (h : CRows w0 gd gl ic pc dr lo sv w) : CRows w0 gd gl ic pc dr lo sv w.drew := h.below (Below.refl _ _).drew
end Go.Proofs.YtabadfkikdefeaaGreat
