/- Contract: clock.draft, of a plan that may be. -/
import Derived.BigRegion
import Derived.Test.YtedahhjopmkbbaaGreatP3
set_option linter.all false
set_option maxRecDepth 100000
set_option maxHeartbeats 6400000
namespace Go.Proofs.YtedahhjopmkbbaaGreat
open Go.RowKit
instance (ts:List TypeId) (B:Nat) (W:World):Nonempty (At (Mut ts B W)):=⟨⟨W,Mut.refl _ _ _⟩⟩
structure GSt (w0:World) (ga qd qr:Nat) (ic pc:List Value) (d:DrS) (vs:List Value) (w:World):Prop where
 inst:Row w w0.heap.size 81 ic
 plan:Row w (w0.heap.size+1) 41 pc
 res:Row w qr 170 [.int .i64 0,.slice none 0 0]
 own:alc7 w (w0.heap.size+3) qd d.fr d.arcs
 att:xcc7 w (w0.heap.size+3) ga d.att vs
 bel:Below w0.heap.size w0 w
 gaB:w0.heap.size≤ga
 resB:w0.heap.size≤qr
section
variable {w0:World} {ga qd qr:Nat} {ic pc:List Value} {d:DrS} {vs:List Value} {w w':World}
theorem GSt.below (h:GSt w0 ga qd qr ic pc d vs w) (hb:Below w.heap.size w w'):GSt w0 ga qd qr ic pc d vs w':=⟨h.inst.below hb,h.plan.below hb,h.res.below hb,h.own.below hb,h.att.below hb,pa7 h.bel hb,h.gaB,h.resB⟩
end
theorem GSt.push {w0:World}{ga qd qr s n:Nat}{ic pc:List Value}{d:DrS}{vs:List Value}{w w1:World}{u:Value}(h:GSt w0 ga qd qr ic pc d vs w) (hs:s<d.att.length) (hsv:s<vs.length)
  (hg:w.grownBy w1 vs[s].ownBlock) (hu:w1.ownsRow (w0.heap.size+3) 3 1 u (d.att[s].length+1) (d.att[s].map fpc7++[fpc7 n])) (hat:u.ownBlock=vs[s].ownBlock∨∃b,u.ownBlock=some b∧w.heap.size≤b) :
  GSt w0 ga qd qr ic pc ⟨d.fr,d.arcs,ch7 d.att s n⟩ (vs.set s u) (w1.setCell ⟨ga,s,none⟩ u):=by
 have hrow:=h.att.rows _ hs hsv
 have hA:=h.att.push hs hsv hg hu hat
 have R1:Row w1 ga 72 vs:=h.att.row.grown hrow (by decide) hg
 have keep:∀{g e cs},Row w g e cs→e≠3→e≠72→Row (w1.setCell ⟨ga,s,none⟩ u) g e cs:=fun hr he he2=>by
  have h1:=hr.grown hrow he hg
  exact h1.setOther (h1.ne R1 he2) _
 have hbel:Below w0.heap.size w0 w1:=h.bel.grown hg h.bel.size fun k hk=>by have:=(hrow.lt k hk).1;omega
 obtain⟨aa,ca,af,cf,R,O1,O2,hq⟩:=h.own
 refine⟨keep h.inst (by decide) (by decide),keep h.plan (by decide) (by decide),keep h.res (by decide) (by decide),⟨aa,ca,af,cf,keep R (by decide) (by decide), ?_, ?_,hq⟩,hA, ?_,h.gaB,h.resB⟩
 ·exact md7 (O1.kept hg (xa7 O1 hrow (by decide))) R1 (by decide) _ _
 ·exact md7 (O2.kept hg (xa7 O2 hrow (by decide))) R1 (by decide) _ _
 ·exact hbel.setCell (by show w0.heap.size≤ga;exact h.gaB) _
theorem Mut.cell {ts:List TypeId}{B:Nat}{w w':World}{g j:Nat}{e:TypeId}{cs:List Value}{v:Value}(h:Mut ts B w w') (hr:Row w g e cs) (he:e ∉ ts) (hv:cs[j]? = some v):w'.cell? ⟨g,j,none⟩=some v:=by
 have hj:j<cs.length:=(List.getElem?_eq_some_iff.1 hv).1
 rw[(h.row hr he).cell hj]
 rw[List.getElem?_eq_getElem hj]at hv
 exact hv
end Go.Proofs.YtedahhjopmkbbaaGreat
