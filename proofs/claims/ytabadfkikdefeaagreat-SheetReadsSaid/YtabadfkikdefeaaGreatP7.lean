/- Texts of the proof, joined: Bad, Light, Feas. -/
import Derived.Test.YtabadfkikdefeaaGreatEarly
set_option linter.all false
set_option maxRecDepth 100000
set_option maxHeartbeats 6400000
namespace Go.Proofs.YtabadfkikdefeaaGreat
open Go.RowKit
structure M0 (w0:World) (qi qp qr:Nat) (ic pc:List Value) (w:World):Prop where
 inst:Row w qi 57 ic
 plan:Row w qp 37 pc
 res:Row w qr 43 [.slice none 0 0,.slice none 0 0,.slice none 0 0,.slice none 0 0,.int .i64 0]
 bel:Below w0.heap.size w0 w
 resB:w0.heap.size≤qr
theorem M0.below {w0 w w':World}{qi qp qr:Nat}{ic pc:List Value}(h:M0 w0 qi qp qr ic pc w) (hb:Below w.heap.size w w'):M0 w0 qi qp qr ic pc w' :=
 ⟨h.inst.below hb,h.plan.below hb,h.res.below hb,ca7 h.bel hb,h.resB⟩
theorem M0.start (w:World) (ic pc:List Value):M0 w w.heap.size (w.heap.size+1) (w.heap.size+1+1) ic pc
  (((w.alloc (.cells ic.toArray 57)).alloc (.cells pc.toArray 37)).alloc (.cells #[.slice none 0 0,.slice none 0 0,.slice none 0 0,.slice none 0 0,.int .i64 0] 43)):=by
 have h0:=FSt.start w 57 37 ic pc
 have h3:=Row.new (w:=(w.alloc (.cells ic.toArray 57)).alloc (.cells pc.toArray 37)) (e:=43) (cs:=[.slice none 0 0,.slice none 0 0,.slice none 0 0,.slice none 0 0,.int .i64 0]) rfl
 rw[show ((w.alloc (.cells ic.toArray 57)).alloc (.cells pc.toArray 37)).heap.size=w.heap.size+1+1 by simp]at h3
 have hb:Below _ _ (((w.alloc (.cells ic.toArray 57)).alloc (.cells pc.toArray 37)).alloc (.cells #[.slice none 0 0,.slice none 0 0,.slice none 0 0,.slice none 0 0,.int .i64 0] 43)):=(Below.refl _ _).alloc (Nat.le_refl _) _
 have h1:=h0.below hb
 exact⟨h1.one,h1.two,h3,h1.bel,by omega⟩
theorem awb7 {w:World}{g:Nat}{e:TypeId}{v0 v1 v2 v3 v4:Value}(h:Row w g e [v0,v1,v2,v3,v4]):w.cell? ⟨g,0,none⟩=some v0∧w.cell? ⟨g,1,none⟩=some v1∧w.cell? ⟨g,2,none⟩=some v2∧w.cell? ⟨g,3,none⟩=some v3∧w.cell? ⟨g,4,none⟩=some v4 :=
 ⟨h.cell (j:=0) (by simp),h.cell (j:=1) (by simp),h.cell (j:=2) (by simp),h.cell (j:=3) (by simp),h.cell (j:=4) (by simp)⟩
theorem ftb7 {w:World}{g:Nat}{e:TypeId}{cs:List Value}(h:Row w g e cs):w.frozen? ⟨g,0,none⟩=false∧w.frozen? ⟨g,1,none⟩=false∧w.frozen? ⟨g,2,none⟩=false∧w.frozen? ⟨g,3,none⟩=false∧w.frozen? ⟨g,4,none⟩=false :=
 ⟨h.frozen 0,h.frozen 1,h.frozen 2,h.frozen 3,h.frozen 4⟩
end Go.Proofs.YtabadfkikdefeaaGreat

namespace Go.Proofs.YtabadfkikdefeaaGreat
open Go.RowKit
def pib7 (x:ba7) (s:ld7):Int:=if ra7 x s.plan s.times≠0 then ra7 x s.plan s.times else if lj7 x s.plan≠s.cost then 14 else 0
theorem rx7 {w:World}{F G:Nat→Prop}{x:ba7}{y:ld7}{cs ys:List Value}(h:kb7.rep w F x cs) (hy:an7.rep w G y ys) (hn:check x=0→x.custs.length≤6) (hsm:bd7 y.plan) :
  Calls Tryz.prog 44 #[.agg cs.toArray,.agg ys.toArray] w fun e w'=>e = .returned (.int .i64 (pib7 x y))∧Below w.heap.size w w':=by
 have hrep:=h
 obtain⟨s,c,co,ti,rfl,-,-,-,-,-⟩:=h
 obtain⟨v1,v2,v3,v4,rfl,-,hp,ht⟩:=hy
 have hs0:=FSt.start w 57 43 [.int .i64 x.fin,.int .i64 x.tmany,.int .i64 x.troom,.int .i64 x.bmany,.int .i64 x.broom,s,c,co,ti] [v1,v2,v3,v4,.int .i64 y.cost]
 obtain⟨yc,hyc⟩:∃c,c=y.cost:=⟨_,rfl⟩
 rw[← hyc]at hs0 ⊢
 have HYC:=hid hyc
 clear hyc
 go_enter Tryz.func44,Tryz.ntmps44
 go_upto_region 1 with fail
 generalize (w.alloc (.cells #[.int .i64 x.fin,.int .i64 x.tmany,.int .i64 x.troom,.int .i64 x.bmany,.int .i64 x.broom,s,c,co,ti] 57)).alloc (.cells #[v1,v2,v3,v4,.int .i64 yc] 43)=w1 at hs0 ⊢
 obtain⟨q0,q1,q2,q3,q4,q5,q6,q7,q8⟩:=wh7 hs0.one
 obtain⟨p0,p1,p2,p3,p4⟩:=awb7 hs0.two
 have HREP:=hid (kb7.below hrep hs0.bel)
 have HP:=hid (wd7.below hp hs0.bel)
 have HT:=hid (ng7.below ht hs0.bel)
 have HS:=hid hs0
 clear hs0 hrep hp ht
 go_wp2_with fail
 refine (qm7 HREP.out HP.out HT.out hn hsm).mono ?_
 rintro e w2 ⟨rfl,hb2⟩
 have HS2:=hid (HS.out.below hb2)
 have HREP2:=hid (kb7.below HREP.out hb2)
 have HP2:=hid (wd7.below HP.out hb2)
 have HFD:=hid (show ∀cc,cc=ra7 x y.plan y.times→pib7 x y=if cc≠0 then cc else if lj7 x y.plan≠yc then 14 else 0 from fun cc h=>by rw[h,HYC.out];rfl)
 obtain⟨cc,hcc⟩:∃c,c=ra7 x y.plan y.times:=⟨_,rfl⟩
 rw[← hcc]
 have HFE:=hid (HFD.out cc hcc)
 clear HFD hcc q0 q1 q2 q3 q4 q5 q6 q7 q8 p0 p1 p2 p3 p4 HS HREP HP HT hb2
 by_cases h0:cc=0
 ·subst h0
  obtain⟨q0,q1,q2,q3,q4,q5,q6,q7,q8⟩:=wh7 HS2.out.one
  obtain⟨p0,p1,p2,p3,p4⟩:=awb7 HS2.out.two
  go_wp2_with fail
  refine (psb7 HREP2.out HP2.out hn hsm).mono ?_
  rintro e w3 ⟨rfl,hb3⟩
  have HS3:=hid (HS2.out.below hb3)
  clear q0 q1 q2 q3 q4 q5 q6 q7 q8 p0 p1 p2 p3 p4 HS2 hb3
  obtain⟨p0,p1,p2,p3,p4⟩:=awb7 HS3.out.two
  obtain⟨k,hk⟩:∃k,k=lj7 x y.plan:=⟨_,rfl⟩
  rw[← hk]at HFE ⊢
  have HB:=hid HS3.out.bel
  by_cases hc:k=yc
  ·subst hc
   have HE:=hid (show pib7 x y=0 from by rw[HFE.out,if_neg (by simp),if_neg (by simp)])
   go_wp2
   go_ret
   exact⟨yb7 HE.out.symm,HB.out⟩
  ·have HE:=hid (show pib7 x y=14 from by rw[HFE.out,if_neg (by simp),if_pos hc])
   have hc2:(k != yc)=true:=by simpa using hc
   clear hc
   go_wp2
   go_ret
   exact⟨yb7 HE.out.symm,HB.out⟩
 ·have HE:=hid (show pib7 x y=cc from by rw[HFE.out,if_pos h0])
  have h02:=xl7 h0
  have HB:=hid HS2.out.bel
  clear h0
  go_wp2
  go_ret
  exact⟨yb7 HE.out.symm,HB.out⟩
def makeF (x:ba7) (p:ab7):ld7:=if ra7 x p (eb7 x p)=0 then ⟨p,eb7 x p,lj7 x p⟩ else ⟨⟨[],[]⟩,⟨[],[]⟩,0⟩
theorem pmb7 {w:World}{F G:Nat→Prop}{x:ba7}{p:ab7}{cs ps:List Value}(h:kb7.rep w F x cs) (hp:wd7.rep w G p ps) (hn:check x=0→x.custs.length≤6) (hsm:bd7 p) (hcb:za7 (lj7 x p))
  (hpw:(∀t∈p.trucks,∀s∈t,za7 s.sat∧za7 s.load)∧∀b∈p.bikes,za7 b.sat∧∀s∈b.stops,za7 s) :
  Calls Tryz.prog 29 #[.agg cs.toArray,.agg ps.toArray] w fun e w'=>∃ys:List Value,e = .returned (.tuple #[.agg ys.toArray,.int .i64 (ra7 x p (eb7 x p))])∧an7.rep w' (fun k=>w.heap.size≤k) (makeF x p) ys∧Below w.heap.size w w':=by
 have hrep:=h
 have hprep:=hp
 obtain⟨s,c,co,ti,rfl,-,-,-,-,-⟩:=h
 obtain⟨v1,v2,rfl,-,-⟩:=hp
 have hs0:=M0.start w [.int .i64 x.fin,.int .i64 x.tmany,.int .i64 x.troom,.int .i64 x.bmany,.int .i64 x.broom,s,c,co,ti] [v1,v2]
 have HPW:=hid hpw
 have HCB:=hid hcb
 go_enter Tryz.func29,Tryz.ntmps29
 go_upto_region 1 with fail
 generalize ((w.alloc (.cells #[.int .i64 x.fin,.int .i64 x.tmany,.int .i64 x.troom,.int .i64 x.bmany,.int .i64 x.broom,s,c,co,ti] 57)).alloc (.cells #[v1,v2] 37)).alloc (.cells #[.slice none 0 0,.slice none 0 0,.slice none 0 0,.slice none 0 0,.int .i64 0] 43)=w1 at hs0 ⊢
 obtain⟨qi,hqi⟩:∃q,q=w.heap.size:=⟨_,rfl⟩
 obtain⟨qp,hqp⟩:∃q,q=w.heap.size+1:=⟨_,rfl⟩
 obtain⟨qr,hqr⟩:∃q,q=w.heap.size+1+1:=⟨_,rfl⟩
 rw[← hqr,← hqp,← hqi]at hs0 ⊢
 obtain⟨q0,q1,q2,q3,q4,q5,q6,q7,q8⟩:=wh7 hs0.inst
 obtain⟨p0,p1⟩:=gf7 hs0.plan
 have HREP:=hid (kb7.below hrep hs0.bel)
 have HPREP:=hid (wd7.below hprep hs0.bel)
 have HS:=hid hs0
 clear hs0 hrep hprep hqi hqp hqr hpw hcb
 go_wp2_with fail
 refine (bub7 HREP.out HPREP.out hn hsm).mono ?_
 rintro e w2 ⟨a,b,rfl,ht,hb2⟩
 have hopen:=ht
 obtain⟨tv,bv,ee,t3,t4⟩:=hopen
 obtain⟨a5,b5,off5,c5,hs5,-,-,-,-,-⟩:=cd7 t3
 obtain⟨a6,b6,off6,c6,hs6,-,-,-,-,-⟩:=hk7 t4
 obtain rfl:=List.cons.inj ee |>.1
 obtain rfl:=List.cons.inj (List.cons.inj ee |>.2) |>.1
 obtain rfl:=List.cons.inj hs5 |>.1
 obtain rfl:=List.cons.inj hs6 |>.1
 obtain⟨n5,hn5⟩:∃n,n=(fm7 x p).trucks.length:=⟨_,rfl⟩
 obtain⟨n6,hn6⟩:∃n,n=(fm7 x p).bikes.length:=⟨_,rfl⟩
 rw[← hn5,← hn6]at ht ⊢
 have hsz:w.heap.size≤w1.heap.size:=HS.out.bel.size
 have hal:Below w2.heap.size w2 (w2.alloc (.cells #[.slice a5 n5 c5,.slice a6 n6 c6] 41)):=(Below.refl _ _).alloc (Nat.le_refl _) _
 have hb3:=ca7 hb2 hal
 have HS3:=hid (HS.out.below hb3)
 have HREP3:=hid (kb7.below HREP.out hb3)
 have HP3:=hid (wd7.below HPREP.out hb3)
 have HT3:=hid (ng7.below ht hal)
 have hqr1:=HS.out.res.lt
 have HX3:=hid (Row.new (w:=w2) (g:=w2.heap.size) (e:=41) (cs:=[.slice a5 n5 c5,.slice a6 n6 c6]) rfl)
 obtain⟨qt,hqt⟩:∃q,q=w2.heap.size:=⟨_,rfl⟩
 rw[← hqt]at HX3
 have HMF:=hid (show ∀cc,cc=ra7 x p (eb7 x p)→makeF x p=(if cc=0 then ⟨p,fm7 x p,lj7 x p⟩ else ⟨⟨[],[]⟩,⟨[],[]⟩,0⟩) from fun cc h=>by
  subst h
  unfold makeF fm7
  by_cases h0:ra7 x p (eb7 x p)=0
  ·rw[if_pos h0,if_pos h0,if_pos h0]
  ·rw[if_neg h0,if_neg h0])
 have HPL:=hid (show ra7 x p (eb7 x p)=0→ya7 x p=0 from fun h=>by
  unfold ra7 at h
  by_cases h1:ya7 x p=0
  ·exact h1
  ·rw[if_pos h1]at h;exact h)
 obtain⟨cc,hcc⟩:∃c,c=ra7 x p (eb7 x p):=⟨_,rfl⟩
 rw[← hcc]at HPL ⊢
 have HM:=hid (HMF.out cc hcc)
 have HCC:=hid hcc
 clear HMF hcc q0 q1 q2 q3 q4 q5 q6 q7 q8 p0 p1 HS HREP HPREP hb2 hb3 hal ee t3 t4 hs5 hs6 hn5 hn6 ht
 go_upto_region 2 with fail
 rw[← hqt]
 generalize w2.alloc (.cells #[.slice a5 n5 c5,.slice a6 n6 c6] 41)=w3 at HS3 HREP3 HP3 HT3 HX3 ⊢
 clear hqt
 by_cases h0:cc=0
 ·subst h0
  have HPK:=hid (HPL.out rfl)
  have bd:=ux7 HPK.out (hn (aj7 HPK.out).inst)
  have HBD:=hid bd
  obtain⟨q0,q1,q2,q3,q4,q5,q6,q7,q8⟩:=wh7 HS3.out.inst
  obtain⟨p0,p1⟩:=gf7 HS3.out.plan
  clear bd HPL
  go_wp2_with fail
  refine (psb7 HREP3.out HP3.out hn hsm).mono ?_
  rintro e w4 ⟨rfl,hb4⟩
  have HS4:=hid (HS3.out.below hb4)
  have HP4:=hid (wd7.below HP3.out hb4)
  have HT4:=hid (ng7.below HT3.out hb4)
  have HX4:=hid (HX3.out.below hb4)
  have HMK:=hid (show ∀k,k=lj7 x p→makeF x p=⟨p,fm7 x p,k⟩∧za7 k from fun k h=>by rw[h];exact⟨by rw[HM.out];simp,HCB.out⟩)
  obtain⟨k,hk⟩:∃k,k=lj7 x p:=⟨_,rfl⟩
  rw[← hk,HPK.out]
  have HMK2:=hid (HMK.out k hk)
  clear q0 q1 q2 q3 q4 q5 q6 q7 q8 p0 p1 HS3 HP3 HT3 HX3 HREP3 hb4 HMK hk HM
  go_upto_region 5 with fail
  obtain⟨p0,p1⟩:=gf7 HS4.out.plan
  obtain⟨x0,x1⟩:=gf7 HX4.out
  go_wp2
  have z0:∀e:At (Old w4),_:=fun e=>e.cell p0
  have z1:∀e:At (Old w4),_:=fun e=>e.cell p1
  have z2:∀e:At (Old w4),_:=fun e=>e.cell x0
  have z3:∀e:At (Old w4),_:=fun e=>e.cell x1
  refine ma7 (Old w4) [5,6] [([0,2,3],1,false),([],4,false),([],5,true),([],6,true)] (by kernel_rfl) (by kernel_rfl) (fun _ _ d _ _ h=>by cases d <;> exact h) (Old.drew _) ?_
  simp only[gd7,List.map_cons,List.map_nil,Array.getD_eq_getD_getElem?,List.getElem?_toArray,List.getElem?_cons_succ,List.getElem?_cons_zero,Option.getD_some,me7]
  repeat (go_big_quiet_step (fail))
  refine wpQuiet_nil ?_
  have hO0:=Old.drew w4
  go_wp2_with fail
  refine (ihb7 (wd7.below HP4.out hO0) (by have:=HBD.out.tl;omega) (by have:=HBD.out.b;omega) (fun t ht=>by have:=HBD.out.t1 t ht;omega) (fun b hb=>by
   have h1:=HBD.out.s
   have h2:=ei7 hb
   omega)).mono ?_
  rintro e w5 ⟨tv,bv,ts,vs,rfl,hT,hB,hb5⟩
  obtain⟨at1,ct1,ht1,-,-⟩:=xa7 hT.own
  obtain⟨ab1,cb1,hb1,-,-⟩:=xa7 hB.own
  subst ht1
  subst hb1
  have hO5:=hO0.step hb5
  have HS5:=hid (HS4.out.below hO5)
  have HT5:=hid (ng7.below HT4.out hO5)
  have HTO:=hid hT
  have HBO:=hid hB
  have hz4:w.heap.size≤w4.heap.size:=HS4.out.bel.size
  clear hT hB hb5 hO0 HS4 HT4
  go_wp2_with fail
  refine⟨hO5,wpQuiet_nil ?_⟩
  go_wp2_with fail
  refine⟨hO5,wpQuiet_nil ?_⟩
  obtain⟨r0,r1,r2,r3,r4⟩:=awb7 HS5.out.res
  obtain⟨f0,f1,f2,f3,f4⟩:=ftb7 HS5.out.res
  clear hO5 p0 p1 x0 x1 z0 z1 z2 z3 HP4
  have hwr:=HS5.out.resB
  have HB5:=hid HS5.out.bel
  have R:=HS5.out.res
  have R1:=R.set (j:=0) (by simp) (.slice at1 p.trucks.length ct1)
  have R2:=R1.set (j:=1) (by simp) (.slice ab1 p.bikes.length cb1)
  have R3:=R2.set (j:=2) (by simp) (.slice a5 n5 c5)
  have R4:=R3.set (j:=3) (by simp) (.slice a6 n6 c6)
  simp only[List.set_cons_zero,List.set_cons_succ]at R1 R2 R3 R4
  have HTF:=hid ((((HTO.out.keptSet (j:=0) (u:=.slice at1 p.trucks.length ct1) R (by decide) (by decide)).keptSet (j:=1) (u:=.slice ab1 p.bikes.length cb1) R1 (by decide) (by decide)).keptSet (j:=2) (u:=.slice a5 n5 c5) R2 (by decide) (by decide)).keptSet (j:=3) (u:=.slice a6 n6 c6) R3 (by decide) (by decide) |>.keptSet (j:=4) (u:=.int .i64 k) R4 (by decide) (by decide))
  have HBF:=hid ((((HBO.out.keptSet (j:=0) (u:=.slice at1 p.trucks.length ct1) R (by decide) (by decide)).keptSet (j:=1) (u:=.slice ab1 p.bikes.length cb1) R1 (by decide) (by decide)).keptSet (j:=2) (u:=.slice a5 n5 c5) R2 (by decide) (by decide)).keptSet (j:=3) (u:=.slice a6 n6 c6) R3 (by decide) (by decide) |>.keptSet (j:=4) (u:=.int .i64 k) R4 (by decide) (by decide))
  have HTM:=hid (ng7.weak (ng7.keep HT5.out (w':=((((w5.setCell ⟨qr,0,none⟩ (.slice at1 p.trucks.length ct1)).setCell ⟨qr,1,none⟩ (.slice ab1 p.bikes.length cb1)).setCell ⟨qr,2,none⟩ (.slice a5 n5 c5)).setCell ⟨qr,3,none⟩ (.slice a6 n6 c6)).setCell ⟨qr,4,none⟩ (.int .i64 k)) fun b hb=>by
   have hne:b≠qr:=by omega
   rw[Below.heap_setCell _ _ _ _ (by exact hne),Below.heap_setCell _ _ _ _ (by exact hne),Below.heap_setCell _ _ _ _ (by exact hne),Below.heap_setCell _ _ _ _ (by exact hne),Below.heap_setCell _ _ _ _ (by exact hne)]) (G:=fun k=>w.heap.size≤k) fun k hk=>Nat.le_trans hsz hk)
  clear R R1 R2 R3 R4 HT5 HTO HBO HX4 hqr1
  go_wp2
  refine wpQuiet_nil ?_
  go_wp2
  refine bodyPost_ret (v:=.tuple #[.agg #[.slice at1 p.trucks.length ct1,.slice ab1 p.bikes.length cb1,.slice a5 n5 c5,.slice a6 n6 c6,.int .i64 k],.int .i64 0]) (by simp[results,Tryz.results29,go_sem,r0,r1,r2,r3,r4]) rfl ⟨[.slice at1 p.trucks.length ct1,.slice ab1 p.bikes.length cb1,.slice a5 n5 c5,.slice a6 n6 c6,.int .i64 k],by rw[← HCC.out], ?_, ?_⟩
  ·rw[HMK2.out.1]
   refine⟨_,_,_,_,rfl,HMK2.out.2,⟨_,_,rfl, ?_, ?_⟩,HTM.out⟩
   ·exact (HTF.out.mono hz4).rep HPW.out.1
   ·exact (HBF.out.mono hz4).rep HPW.out.2
  ·have hb:=HB5.out
   repeat (first | exact hb | refine Below.setCell ?_ hwr _)
 ·have h0':=xl7 h0
  have HM2:=hid (show makeF x p=⟨⟨[],[]⟩,⟨[],[]⟩,0⟩ from by rw[HM.out,if_neg h0])
  have R:=HS3.out.res
  obtain⟨r0,r1,r2,r3,r4⟩:=awb7 R
  obtain⟨f0,f1,f2,f3,f4⟩:=ftb7 R
  have hwr:=HS3.out.resB
  have HB:=hid HS3.out.bel
  clear h0 HM HPL
  go_wp2
  refine bodyPost_ret (v:=.tuple #[.agg #[.slice none 0 0,.slice none 0 0,.slice none 0 0,.slice none 0 0,.int .i64 0],.int .i64 cc]) (by simp[results,Tryz.results29,go_sem,r0,r1,r2,r3,r4]) rfl ⟨[.slice none 0 0,.slice none 0 0,.slice none 0 0,.slice none 0 0,.int .i64 0],by rw[← HCC.out], ?_, ?_⟩
  ·rw[HM2.out]
   exact⟨_,_,_,_,rfl,by unfold za7;decide,⟨_,_,rfl,fh7 _ _ _,fh7 _ _ _⟩,⟨_,_,rfl,fh7 _ _ _,fh7 _ _ _⟩⟩
  ·have hb:=HB.out
   repeat (first | exact hb | refine Below.setCell ?_ hwr _)
end Go.Proofs.YtabadfkikdefeaaGreat
