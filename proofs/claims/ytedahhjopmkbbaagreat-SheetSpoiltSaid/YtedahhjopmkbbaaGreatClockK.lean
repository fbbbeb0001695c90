/- clock.Check. -/
import Derived.Test.YtedahhjopmkbbaaGreatClockB
set_option linter.all false
set_option maxRecDepth 100000
set_option maxHeartbeats 6400000
namespace Go.Proofs.YtedahhjopmkbbaaGreat
open Go.RowKit
structure pdc7 (w0:World) (qi qp qt:Nat) (ic pc tc:List Value) (w:World):Prop where
 inst:Row w qi 81 ic
 plan:Row w qp 41 pc
 tms:Row w qt 45 tc
 mu:Mut rts w0.heap.size w0 w
 le:w0.heap.size≤w.heap.size
section
variable {w0 w w':World} {qi qp qt:Nat} {ic pc tc:List Value}
theorem pdc7.below (h:pdc7 w0 qi qp qt ic pc tc w) (hb:Below w.heap.size w w'):pdc7 w0 qi qp qt ic pc tc w' :=
 ⟨h.inst.below hb,h.plan.below hb,h.tms.below hb,h.mu.trans (Mut.below hb h.le),Nat.le_trans h.le hb.size⟩
theorem pdc7.move (h:pdc7 w0 qi qp qt ic pc tc w) (hm:Mut rts w0.heap.size w w'):pdc7 w0 qi qp qt ic pc tc w' :=
 ⟨hm.row h.inst (by decide),hm.row h.plan (by decide),hm.row h.tms (by decide),h.mu.trans hm,Nat.le_trans h.le hm.bel.size⟩
theorem pdc7.start (w:World) (ic pc tc:List Value):pdc7 w w.heap.size (w.heap.size+1) (w.heap.size+1+1) ic pc tc
  (((w.alloc (.cells ic.toArray 81)).alloc (.cells pc.toArray 41)).alloc (.cells tc.toArray 45)):=by
 have h0:=FSt.start w 81 41 ic pc
 have h3:=Row.new (w:=(w.alloc (.cells ic.toArray 81)).alloc (.cells pc.toArray 41)) (e:=45) (cs:=tc) rfl
 rw[show ((w.alloc (.cells ic.toArray 81)).alloc (.cells pc.toArray 41)).heap.size=w.heap.size+1+1 by simp]at h3
 have hb:Below _ _ (((w.alloc (.cells ic.toArray 81)).alloc (.cells pc.toArray 41)).alloc (.cells tc.toArray 45)):=(Below.refl _ _).alloc (Nat.le_refl _) _
 have h1:=h0.below hb
 exact⟨h1.one,h1.two,h3,Mut.below h1.bel (Nat.le_refl _),h1.bel.size⟩
end
theorem wdb7 {l:List ga7}{b:ga7}(h:b∈l):b.stops.length≤ic7 l l.length:=by
 obtain⟨k,hk,rfl⟩:=List.getElem_of_mem h
 have h1:=th7 hk
 have h2:=cab7 (l:=l) (k:=k+1)
 omega
end Go.Proofs.YtedahhjopmkbbaaGreat
