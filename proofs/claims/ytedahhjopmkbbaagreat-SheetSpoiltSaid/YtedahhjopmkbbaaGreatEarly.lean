/- clock.Early. -/
import Derived.Test.YtedahhjopmkbbaaGreatLate
set_option linter.all false
set_option maxRecDepth 100000
set_option maxHeartbeats 6400000
namespace Go.Proofs.YtedahhjopmkbbaaGreat
open Go.RowKit
structure EL (w0:World) (qi qp qr qt go:Nat) (ic pc dv tc:List Value) (w:World):Prop where
 inst:Row w qi 81 ic
 plan:Row w qp 41 pc
 res:Row w qr 45 [.slice none 0 0,.slice none 0 0]
 tms:Row w qt 45 tc
 row:Row w go 2 dv
 bel:Below w0.heap.size w0 w
 ne:qr≠qt
 qtB:w0.heap.size≤qt
section
variable {w0 w w':World} {qi qp qr qt go:Nat} {ic pc dv tc:List Value}
theorem EL.below (h:EL w0 qi qp qr qt go ic pc dv tc w) (hb:Below w.heap.size w w'):EL w0 qi qp qr qt go ic pc dv tc w' :=
 ⟨h.inst.below hb,h.plan.below hb,h.res.below hb,h.tms.below hb,h.row.below hb,pa7 h.bel hb,h.ne,h.qtB⟩
theorem EL.grown {B T k n:Nat}{v:Value}{xs:List Value}(h:EL w0 qi qp qr qt go ic pc dv tc w) (hown:w.ownsRow B T k v n xs) (hT:81≠T∧41≠T∧45≠T∧2≠T) (hg:w.grownBy w' v.ownBlock) (hB:w0.heap.size≤B):EL w0 qi qp qr qt go ic pc dv tc w' :=
 ⟨h.inst.grown hown hT.1 hg,h.plan.grown hown hT.2.1 hg,h.res.grown hown hT.2.2.1 hg,h.tms.grown hown hT.2.2.1 hg,h.row.grown hown hT.2.2.2 hg,td7 h.bel hown h.bel.size hB hg,h.ne,h.qtB⟩
theorem EL.setT (h:EL w0 qi qp qr qt go ic pc dv tc w) {j:Nat}(hj:j<tc.length) (u:Value):EL w0 qi qp qr qt go ic pc dv (tc.set j u) (w.setCell ⟨qt,j,none⟩ u) :=
 ⟨h.inst.setOther (a:=⟨qt,j,none⟩) (h.inst.ne h.tms (by decide)) u,h.plan.setOther (a:=⟨qt,j,none⟩) (h.plan.ne h.tms (by decide)) u,h.res.setOther (a:=⟨qt,j,none⟩) h.ne u,h.tms.set hj u,h.row.setOther (a:=⟨qt,j,none⟩) (h.row.ne h.tms (by decide)) u,
  h.bel.setCell (p:=⟨qt,j,none⟩) h.qtB u,h.ne,h.qtB⟩
end
structure E0 (w0:World) (qi qp qr:Nat) (ic pc:List Value) (w:World):Prop where
 inst:Row w qi 81 ic
 plan:Row w qp 41 pc
 res:Row w qr 45 [.slice none 0 0,.slice none 0 0]
 bel:Below w0.heap.size w0 w
 resB:w0.heap.size≤qr
theorem E0.below {w0 w w':World}{qi qp qr:Nat}{ic pc:List Value}(h:E0 w0 qi qp qr ic pc w) (hb:Below w.heap.size w w'):E0 w0 qi qp qr ic pc w' :=
 ⟨h.inst.below hb,h.plan.below hb,h.res.below hb,pa7 h.bel hb,h.resB⟩
theorem E0.start (w:World) (ic pc:List Value):E0 w w.heap.size (w.heap.size+1) (w.heap.size+1+1) ic pc
  (((w.alloc (.cells ic.toArray 81)).alloc (.cells pc.toArray 41)).alloc (.cells #[.slice none 0 0,.slice none 0 0] 45)):=by
 have h0:=FSt.start w 81 41 ic pc
 have h3:=Row.new (w:=(w.alloc (.cells ic.toArray 81)).alloc (.cells pc.toArray 41)) (e:=45) (cs:=[.slice none 0 0,.slice none 0 0]) rfl
 rw[show ((w.alloc (.cells ic.toArray 81)).alloc (.cells pc.toArray 41)).heap.size=w.heap.size+1+1 by simp]at h3
 have hb:Below _ _ (((w.alloc (.cells ic.toArray 81)).alloc (.cells pc.toArray 41)).alloc (.cells #[.slice none 0 0,.slice none 0 0] 45)):=(Below.refl _ _).alloc (Nat.le_refl _) _
 have h1:=h0.below hb
 exact⟨h1.one,h1.two,h3,h1.bel,by omega⟩
end Go.Proofs.YtedahhjopmkbbaaGreat
