/- clock.bike: what it answers. -/
import Derived.Test.YtedahhjopmkbbaaGreatClockT
set_option linter.all false
set_option maxRecDepth 100000
set_option maxHeartbeats 6400000
namespace Go.Proofs.YtedahhjopmkbbaaGreat
open Go.RowKit
structure tnc7 (x:ca7) (st:BkS):Prop where
 now:0≤st.now∧st.now≤2000000000
 node:0≤st.node∧st.node<nodes x
theorem tnc7.step {x:ca7}(gd:Good x) {st st':BkS}{c v:Int}(hc:je7 x c) (he:qec7 x st c v=some st'):tnc7 x st':=by
 unfold qec7 nsc7 at he
 split at he
 ·rename_i hb
  cases he
  simp only[Bool.and_eq_true,decide_eq_true_eq]at hb
  have h2:=qcb7 gd hc
  have h5:=gd.fin
  have h6:=hc
  unfold je7 at h6
  refine⟨by show 0≤v+(fc7 x c).stay∧v+(fc7 x c).stay≤2000000000;omega,by show 0≤1+(x.sats.length:Int)+c∧1+(x.sats.length:Int)+c<(nodes x:Int);unfold nodes;omega⟩
 ·cases he
structure BSt (w0:World) (qi qb qr:Nat) (ic bc rc:List Value) (w:World):Prop where
 inst:Row w qi 81 ic
 bike:Row w qb 75 bc
 ride:Row w qr 63 rc
 bel:Below w0.heap.size w0 w
section
variable {w0 w w':World} {qi qb qr:Nat} {ic bc rc:List Value}
theorem BSt.below (h:BSt w0 qi qb qr ic bc rc w) (hb:Below w.heap.size w w'):BSt w0 qi qb qr ic bc rc w':=⟨h.inst.below hb,h.bike.below hb,h.ride.below hb,pa7 h.bel hb⟩
theorem BSt.start (w:World) (ic bc rc:List Value):BSt w w.heap.size (w.heap.size+1) (w.heap.size+1+1) ic bc rc
  (((w.alloc (.cells ic.toArray 81)).alloc (.cells bc.toArray 75)).alloc (.cells rc.toArray 63)):=by
 have h0:=FSt.start w 81 75 ic bc
 have h3:=Row.new (w:=(w.alloc (.cells ic.toArray 81)).alloc (.cells bc.toArray 75)) (e:=63) (cs:=rc) rfl
 rw[show ((w.alloc (.cells ic.toArray 81)).alloc (.cells bc.toArray 75)).heap.size=w.heap.size+1+1 by simp]at h3
 have hb:Below _ _ (((w.alloc (.cells ic.toArray 81)).alloc (.cells bc.toArray 75)).alloc (.cells rc.toArray 63)):=(Below.refl _ _).alloc (Nat.le_refl _) _
 have h1:=h0.below hb
 exact⟨h1.one,h1.two,h3,h1.bel⟩
end
end Go.Proofs.YtedahhjopmkbbaaGreat
