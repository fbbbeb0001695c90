/- Texts of the proof, joined: Bad, Light, Feas, CanD, TimesOwn, More, Open, Open2, Law, TextD, Bytes, WText, Line, Bld. -/
import Derived.Deep.DeepCutAuto
import Derived.Test.YtabadfkikdefeaaGreatProg
import Derived.Deep.Slices
import Derived.OpenShut
import Derived.Test.YtabadfkikdefeaaGreatRows
import Derived.ProofKit
import Derived.Lib.ItoaLen
import Derived.Deep.AppendSrc
import Derived.Laws.IdiomStrings
import Derived.Lib.UnsafeStr
import Derived.Lib.Builder
import Derived.Laws.Externs
import Derived.Test.YtabadfkikdefeaaGreatEarly
set_option linter.all false
set_option maxRecDepth 100000
set_option maxHeartbeats 6400000
namespace Go.Proofs.YtabadfkikdefeaaGreat
open Go.RowKit
structure M0 (w0:World) (qi qp qr:Nat) (ic pc:List Value) (w:World):Prop where
 inst:Row w qi 57 ic
 plan:Row w qp 37 pc
 res:Row w qr 43 [.slice none 0 0,.slice none 0 0,.slice none 0 0,.slice none 0 0,.int .i64 0]
 bel:Below w0.heap.size w0 w
 resB:w0.heap.size≤qr
theorem M0.below {w0 w w':World}{qi qp qr:Nat}{ic pc:List Value}(h:M0 w0 qi qp qr ic pc w) (hb:Below w.heap.size w w'):M0 w0 qi qp qr ic pc w' :=
 ⟨h.inst.below hb,h.plan.below hb,h.res.below hb,ca7 h.bel hb,h.resB⟩
theorem M0.start (w:World) (ic pc:List Value):M0 w w.heap.size (w.heap.size+1) (w.heap.size+1+1) ic pc
  (((w.alloc (.cells ic.toArray 57)).alloc (.cells pc.toArray 37)).alloc (.cells #[.slice none 0 0,.slice none 0 0,.slice none 0 0,.slice none 0 0,.int .i64 0] 43)):=by
 have h0:=FSt.start w 57 37 ic pc
 have h3:=Row.new (w:=(w.alloc (.cells ic.toArray 57)).alloc (.cells pc.toArray 37)) (e:=43) (cs:=[.slice none 0 0,.slice none 0 0,.slice none 0 0,.slice none 0 0,.int .i64 0]) rfl
 rw[show ((w.alloc (.cells ic.toArray 57)).alloc (.cells pc.toArray 37)).heap.size=w.heap.size+1+1 by simp]at h3
 have hb:Below _ _ (((w.alloc (.cells ic.toArray 57)).alloc (.cells pc.toArray 37)).alloc (.cells #[.slice none 0 0,.slice none 0 0,.slice none 0 0,.slice none 0 0,.int .i64 0] 43)):=(Below.refl _ _).alloc (Nat.le_refl _) _
 have h1:=h0.below hb
 exact⟨h1.one,h1.two,h3,h1.bel,by omega⟩
theorem ysb7 {w:World}{g:Nat}{e:TypeId}{v0 v1 v2 v3 v4:Value}(h:Row w g e [v0,v1,v2,v3,v4]):w.cell? ⟨g,0,none⟩=some v0∧w.cell? ⟨g,1,none⟩=some v1∧w.cell? ⟨g,2,none⟩=some v2∧w.cell? ⟨g,3,none⟩=some v3∧w.cell? ⟨g,4,none⟩=some v4 :=
 ⟨h.cell (j:=0) (by simp),h.cell (j:=1) (by simp),h.cell (j:=2) (by simp),h.cell (j:=3) (by simp),h.cell (j:=4) (by simp)⟩
theorem grb7 {w:World}{g:Nat}{e:TypeId}{cs:List Value}(h:Row w g e cs):w.frozen? ⟨g,0,none⟩=false∧w.frozen? ⟨g,1,none⟩=false∧w.frozen? ⟨g,2,none⟩=false∧w.frozen? ⟨g,3,none⟩=false∧w.frozen? ⟨g,4,none⟩=false :=
 ⟨h.frozen 0,h.frozen 1,h.frozen 2,h.frozen 3,h.frozen 4⟩
end Go.Proofs.YtabadfkikdefeaaGreat

namespace Go.Proofs.YtabadfkikdefeaaGreat
open Go.RowKit
def ehb7 (x:ba7) (s:hi7):Int:=if ta7 x s.plan s.times≠0 then ta7 x s.plan s.times else if uj7 x s.plan≠s.cost then 14 else 0
theorem px7 {w:World}{F G:Nat→Prop}{x:ba7}{y:hi7}{cs ys:List Value}(h:eb7.rep w F x cs) (hy:zm7.rep w G y ys) (hn:check x=0→x.custs.length≤6) (hsm:jc7 y.plan) :
  Calls Tryz.prog 44 #[.agg cs.toArray,.agg ys.toArray] w fun e w'=>e = .returned (.int .i64 (ehb7 x y))∧Below w.heap.size w w':=by
 have hrep:=h
 obtain⟨s,c,co,ti,rfl,-,-,-,-,-⟩:=h
 obtain⟨v1,v2,v3,v4,rfl,-,hp,ht⟩:=hy
 have hs0:=FSt.start w 57 43 [.int .i64 x.fin,.int .i64 x.tmany,.int .i64 x.troom,.int .i64 x.bmany,.int .i64 x.broom,s,c,co,ti] [v1,v2,v3,v4,.int .i64 y.cost]
 obtain⟨yc,hyc⟩:∃c,c=y.cost:=⟨_,rfl⟩
 rw[← hyc]at hs0 ⊢
 have HYC:=hid hyc
 clear hyc
 go_enter Tryz.func44,Tryz.ntmps44
 go_upto_region 1 with fail
 generalize (w.alloc (.cells #[.int .i64 x.fin,.int .i64 x.tmany,.int .i64 x.troom,.int .i64 x.bmany,.int .i64 x.broom,s,c,co,ti] 57)).alloc (.cells #[v1,v2,v3,v4,.int .i64 yc] 43)=w1 at hs0 ⊢
 obtain⟨q0,q1,q2,q3,q4,q5,q6,q7,q8⟩:=sh7 hs0.one
 obtain⟨p0,p1,p2,p3,p4⟩:=ysb7 hs0.two
 have HREP:=hid (eb7.below hrep hs0.bel)
 have HP:=hid (ud7.below hp hs0.bel)
 have HT:=hid (xg7.below ht hs0.bel)
 have HS:=hid hs0
 clear hs0 hrep hp ht
 go_wp2_with fail
 refine (cn7 HREP.out HP.out HT.out hn hsm).mono ?_
 rintro e w2 ⟨rfl,hb2⟩
 have HS2:=hid (HS.out.below hb2)
 have HREP2:=hid (eb7.below HREP.out hb2)
 have HP2:=hid (ud7.below HP.out hb2)
 have HFD:=hid (show ∀cc,cc=ta7 x y.plan y.times→ehb7 x y=if cc≠0 then cc else if uj7 x y.plan≠yc then 14 else 0 from fun cc h=>by rw[h,HYC.out];rfl)
 obtain⟨cc,hcc⟩:∃c,c=ta7 x y.plan y.times:=⟨_,rfl⟩
 rw[← hcc]
 have HFE:=hid (HFD.out cc hcc)
 clear HFD hcc q0 q1 q2 q3 q4 q5 q6 q7 q8 p0 p1 p2 p3 p4 HS HREP HP HT hb2
 by_cases h0:cc=0
 ·subst h0
  obtain⟨q0,q1,q2,q3,q4,q5,q6,q7,q8⟩:=sh7 HS2.out.one
  obtain⟨p0,p1,p2,p3,p4⟩:=ysb7 HS2.out.two
  go_wp2_with fail
  refine (zmb7 HREP2.out HP2.out hn hsm).mono ?_
  rintro e w3 ⟨rfl,hb3⟩
  have HS3:=hid (HS2.out.below hb3)
  clear q0 q1 q2 q3 q4 q5 q6 q7 q8 p0 p1 p2 p3 p4 HS2 hb3
  obtain⟨p0,p1,p2,p3,p4⟩:=ysb7 HS3.out.two
  obtain⟨k,hk⟩:∃k,k=uj7 x y.plan:=⟨_,rfl⟩
  rw[← hk]at HFE ⊢
  have HB:=hid HS3.out.bel
  by_cases hc:k=yc
  ·subst hc
   have HE:=hid (show ehb7 x y=0 from by rw[HFE.out,if_neg (by simp),if_neg (by simp)])
   go_wp2
   go_ret
   exact⟨kb7 HE.out.symm,HB.out⟩
  ·have HE:=hid (show ehb7 x y=14 from by rw[HFE.out,if_neg (by simp),if_pos hc])
   have hc2:(k != yc)=true:=by simpa using hc
   clear hc
   go_wp2
   go_ret
   exact⟨kb7 HE.out.symm,HB.out⟩
 ·have HE:=hid (show ehb7 x y=cc from by rw[HFE.out,if_pos h0])
  have h02:=im7 h0
  have HB:=hid HS2.out.bel
  clear h0
  go_wp2
  go_ret
  exact⟨kb7 HE.out.symm,HB.out⟩
def makeF (x:ba7) (p:sa7):hi7:=if ta7 x p (ab7 x p)=0 then ⟨p,ab7 x p,uj7 x p⟩ else ⟨⟨[],[]⟩,⟨[],[]⟩,0⟩
theorem xkb7 {w:World}{F G:Nat→Prop}{x:ba7}{p:sa7}{cs ps:List Value}(h:eb7.rep w F x cs) (hp:ud7.rep w G p ps) (hn:check x=0→x.custs.length≤6) (hsm:jc7 p) (hcb:pa7 (uj7 x p))
  (hpw:(∀t∈p.trucks,∀s∈t,pa7 s.sat∧pa7 s.load)∧∀b∈p.bikes,pa7 b.sat∧∀s∈b.stops,pa7 s) :
  Calls Tryz.prog 29 #[.agg cs.toArray,.agg ps.toArray] w fun e w'=>∃ys:List Value,e = .returned (.tuple #[.agg ys.toArray,.int .i64 (ta7 x p (ab7 x p))])∧zm7.rep w' (fun k=>w.heap.size≤k) (makeF x p) ys∧Below w.heap.size w w':=by
 have hrep:=h
 have hprep:=hp
 obtain⟨s,c,co,ti,rfl,-,-,-,-,-⟩:=h
 obtain⟨v1,v2,rfl,-,-⟩:=hp
 have hs0:=M0.start w [.int .i64 x.fin,.int .i64 x.tmany,.int .i64 x.troom,.int .i64 x.bmany,.int .i64 x.broom,s,c,co,ti] [v1,v2]
 have HPW:=hid hpw
 have HCB:=hid hcb
 go_enter Tryz.func29,Tryz.ntmps29
 go_upto_region 1 with fail
 generalize ((w.alloc (.cells #[.int .i64 x.fin,.int .i64 x.tmany,.int .i64 x.troom,.int .i64 x.bmany,.int .i64 x.broom,s,c,co,ti] 57)).alloc (.cells #[v1,v2] 37)).alloc (.cells #[.slice none 0 0,.slice none 0 0,.slice none 0 0,.slice none 0 0,.int .i64 0] 43)=w1 at hs0 ⊢
 obtain⟨qi,hqi⟩:∃q,q=w.heap.size:=⟨_,rfl⟩
 obtain⟨qp,hqp⟩:∃q,q=w.heap.size+1:=⟨_,rfl⟩
 obtain⟨qr,hqr⟩:∃q,q=w.heap.size+1+1:=⟨_,rfl⟩
 rw[← hqr,← hqp,← hqi]at hs0 ⊢
 obtain⟨q0,q1,q2,q3,q4,q5,q6,q7,q8⟩:=sh7 hs0.inst
 obtain⟨p0,p1⟩:=kc7 hs0.plan
 have HREP:=hid (eb7.below hrep hs0.bel)
 have HPREP:=hid (ud7.below hprep hs0.bel)
 have HS:=hid hs0
 clear hs0 hrep hprep hqi hqp hqr hpw hcb
 go_wp2_with fail
 refine (zqb7 HREP.out HPREP.out hn hsm).mono ?_
 rintro e w2 ⟨a,b,rfl,ht,hb2⟩
 have hopen:=ht
 obtain⟨tv,bv,ee,t3,t4⟩:=hopen
 obtain⟨a5,b5,off5,c5,hs5,-,-,-,-,-⟩:=kd7 t3
 obtain⟨a6,b6,off6,c6,hs6,-,-,-,-,-⟩:=lk7 t4
 obtain rfl:=List.cons.inj ee |>.1
 obtain rfl:=List.cons.inj (List.cons.inj ee |>.2) |>.1
 obtain rfl:=List.cons.inj hs5 |>.1
 obtain rfl:=List.cons.inj hs6 |>.1
 obtain⟨n5,hn5⟩:∃n,n=(an7 x p).trucks.length:=⟨_,rfl⟩
 obtain⟨n6,hn6⟩:∃n,n=(an7 x p).bikes.length:=⟨_,rfl⟩
 rw[← hn5,← hn6]at ht ⊢
 have hsz:w.heap.size≤w1.heap.size:=HS.out.bel.size
 have hal:Below w2.heap.size w2 (w2.alloc (.cells #[.slice a5 n5 c5,.slice a6 n6 c6] 41)):=(Below.refl _ _).alloc (Nat.le_refl _) _
 have hb3:=ca7 hb2 hal
 have HS3:=hid (HS.out.below hb3)
 have HREP3:=hid (eb7.below HREP.out hb3)
 have HP3:=hid (ud7.below HPREP.out hb3)
 have HT3:=hid (xg7.below ht hal)
 have hqr1:=HS.out.res.lt
 have HX3:=hid (Row.new (w:=w2) (g:=w2.heap.size) (e:=41) (cs:=[.slice a5 n5 c5,.slice a6 n6 c6]) rfl)
 obtain⟨qt,hqt⟩:∃q,q=w2.heap.size:=⟨_,rfl⟩
 rw[← hqt]at HX3
 have HMF:=hid (show ∀cc,cc=ta7 x p (ab7 x p)→makeF x p=(if cc=0 then ⟨p,an7 x p,uj7 x p⟩ else ⟨⟨[],[]⟩,⟨[],[]⟩,0⟩) from fun cc h=>by
  subst h
  unfold makeF an7
  by_cases h0:ta7 x p (ab7 x p)=0
  ·rw[if_pos h0,if_pos h0,if_pos h0]
  ·rw[if_neg h0,if_neg h0])
 have HPL:=hid (show ta7 x p (ab7 x p)=0→na7 x p=0 from fun h=>by
  unfold ta7 at h
  by_cases h1:na7 x p=0
  ·exact h1
  ·rw[if_pos h1]at h;exact h)
 obtain⟨cc,hcc⟩:∃c,c=ta7 x p (ab7 x p):=⟨_,rfl⟩
 rw[← hcc]at HPL ⊢
 have HM:=hid (HMF.out cc hcc)
 have HCC:=hid hcc
 clear HMF hcc q0 q1 q2 q3 q4 q5 q6 q7 q8 p0 p1 HS HREP HPREP hb2 hb3 hal ee t3 t4 hs5 hs6 hn5 hn6 ht
 go_upto_region 2 with fail
 rw[← hqt]
 generalize w2.alloc (.cells #[.slice a5 n5 c5,.slice a6 n6 c6] 41)=w3 at HS3 HREP3 HP3 HT3 HX3 ⊢
 clear hqt
 by_cases h0:cc=0
 ·subst h0
  have HPK:=hid (HPL.out rfl)
  have bd:=jr7 HPK.out (hn (jj7 HPK.out).inst)
  have HBD:=hid bd
  obtain⟨q0,q1,q2,q3,q4,q5,q6,q7,q8⟩:=sh7 HS3.out.inst
  obtain⟨p0,p1⟩:=kc7 HS3.out.plan
  clear bd HPL
  go_wp2_with fail
  refine (zmb7 HREP3.out HP3.out hn hsm).mono ?_
  rintro e w4 ⟨rfl,hb4⟩
  have HS4:=hid (HS3.out.below hb4)
  have HP4:=hid (ud7.below HP3.out hb4)
  have HT4:=hid (xg7.below HT3.out hb4)
  have HX4:=hid (HX3.out.below hb4)
  have HMK:=hid (show ∀k,k=uj7 x p→makeF x p=⟨p,an7 x p,k⟩∧pa7 k from fun k h=>by rw[h];exact⟨by rw[HM.out];simp,HCB.out⟩)
  obtain⟨k,hk⟩:∃k,k=uj7 x p:=⟨_,rfl⟩
  rw[← hk,HPK.out]
  have HMK2:=hid (HMK.out k hk)
  clear q0 q1 q2 q3 q4 q5 q6 q7 q8 p0 p1 HS3 HP3 HT3 HX3 HREP3 hb4 HMK hk HM
  go_upto_region 5 with fail
  obtain⟨p0,p1⟩:=kc7 HS4.out.plan
  obtain⟨x0,x1⟩:=kc7 HX4.out
  go_wp2
  have z0:∀e:At (Old w4),_:=fun e=>e.cell p0
  have z1:∀e:At (Old w4),_:=fun e=>e.cell p1
  have z2:∀e:At (Old w4),_:=fun e=>e.cell x0
  have z3:∀e:At (Old w4),_:=fun e=>e.cell x1
  refine ja7 (Old w4) [5,6] [([0,2,3],1,false),([],4,false),([],5,true),([],6,true)] (by kernel_rfl) (by kernel_rfl) (fun _ _ d _ _ h=>by cases d <;> exact h) (Old.drew _) ?_
  simp only[lc7,List.map_cons,List.map_nil,Array.getD_eq_getD_getElem?,List.getElem?_toArray,List.getElem?_cons_succ,List.getElem?_cons_zero,Option.getD_some,me7]
  repeat (go_big_quiet_step (fail))
  refine wpQuiet_nil ?_
  have hO0:=Old.drew w4
  go_wp2_with fail
  refine (dw7 (ud7.below HP4.out hO0) (by have:=HBD.out.tl;omega) (by have:=HBD.out.b;omega) (fun t ht=>by have:=HBD.out.t1 t ht;omega) (fun b hb=>by
   have h1:=HBD.out.s
   have h2:=ah7 hb
   omega)).mono ?_
  rintro e w5 ⟨tv,bv,ts,vs,rfl,hT,hB,hb5⟩
  obtain⟨at1,ct1,ht1,-,-⟩:=ka7 hT.own
  obtain⟨ab1,cb1,hb1,-,-⟩:=ka7 hB.own
  subst ht1
  subst hb1
  have hO5:=hO0.step hb5
  have HS5:=hid (HS4.out.below hO5)
  have HT5:=hid (xg7.below HT4.out hO5)
  have HTO:=hid hT
  have HBO:=hid hB
  have hz4:w.heap.size≤w4.heap.size:=HS4.out.bel.size
  clear hT hB hb5 hO0 HS4 HT4
  go_wp2_with fail
  refine⟨hO5,wpQuiet_nil ?_⟩
  go_wp2_with fail
  refine⟨hO5,wpQuiet_nil ?_⟩
  obtain⟨r0,r1,r2,r3,r4⟩:=ysb7 HS5.out.res
  obtain⟨f0,f1,f2,f3,f4⟩:=grb7 HS5.out.res
  clear hO5 p0 p1 x0 x1 z0 z1 z2 z3 HP4
  have hwr:=HS5.out.resB
  have HB5:=hid HS5.out.bel
  have R:=HS5.out.res
  have R1:=R.set (j:=0) (by simp) (.slice at1 p.trucks.length ct1)
  have R2:=R1.set (j:=1) (by simp) (.slice ab1 p.bikes.length cb1)
  have R3:=R2.set (j:=2) (by simp) (.slice a5 n5 c5)
  have R4:=R3.set (j:=3) (by simp) (.slice a6 n6 c6)
  simp only[List.set_cons_zero,List.set_cons_succ]at R1 R2 R3 R4
  have HTF:=hid ((((HTO.out.keptSet (j:=0) (u:=.slice at1 p.trucks.length ct1) R (by decide) (by decide)).keptSet (j:=1) (u:=.slice ab1 p.bikes.length cb1) R1 (by decide) (by decide)).keptSet (j:=2) (u:=.slice a5 n5 c5) R2 (by decide) (by decide)).keptSet (j:=3) (u:=.slice a6 n6 c6) R3 (by decide) (by decide) |>.keptSet (j:=4) (u:=.int .i64 k) R4 (by decide) (by decide))
  have HBF:=hid ((((HBO.out.keptSet (j:=0) (u:=.slice at1 p.trucks.length ct1) R (by decide) (by decide)).keptSet (j:=1) (u:=.slice ab1 p.bikes.length cb1) R1 (by decide) (by decide)).keptSet (j:=2) (u:=.slice a5 n5 c5) R2 (by decide) (by decide)).keptSet (j:=3) (u:=.slice a6 n6 c6) R3 (by decide) (by decide) |>.keptSet (j:=4) (u:=.int .i64 k) R4 (by decide) (by decide))
  have HTM:=hid (xg7.weak (xg7.keep HT5.out (w':=((((w5.setCell ⟨qr,0,none⟩ (.slice at1 p.trucks.length ct1)).setCell ⟨qr,1,none⟩ (.slice ab1 p.bikes.length cb1)).setCell ⟨qr,2,none⟩ (.slice a5 n5 c5)).setCell ⟨qr,3,none⟩ (.slice a6 n6 c6)).setCell ⟨qr,4,none⟩ (.int .i64 k)) fun b hb=>by
   have hne:b≠qr:=by omega
   rw[Below.heap_setCell _ _ _ _ (by exact hne),Below.heap_setCell _ _ _ _ (by exact hne),Below.heap_setCell _ _ _ _ (by exact hne),Below.heap_setCell _ _ _ _ (by exact hne),Below.heap_setCell _ _ _ _ (by exact hne)]) (G:=fun k=>w.heap.size≤k) fun k hk=>Nat.le_trans hsz hk)
  clear R R1 R2 R3 R4 HT5 HTO HBO HX4 hqr1
  go_wp2
  refine wpQuiet_nil ?_
  go_wp2
  refine bodyPost_ret (v:=.tuple #[.agg #[.slice at1 p.trucks.length ct1,.slice ab1 p.bikes.length cb1,.slice a5 n5 c5,.slice a6 n6 c6,.int .i64 k],.int .i64 0]) (by simp[results,Tryz.results29,go_sem,r0,r1,r2,r3,r4]) rfl ⟨[.slice at1 p.trucks.length ct1,.slice ab1 p.bikes.length cb1,.slice a5 n5 c5,.slice a6 n6 c6,.int .i64 k],by rw[← HCC.out], ?_, ?_⟩
  ·rw[HMK2.out.1]
   refine⟨_,_,_,_,rfl,HMK2.out.2,⟨_,_,rfl, ?_, ?_⟩,HTM.out⟩
   ·exact (HTF.out.mono hz4).rep HPW.out.1
   ·exact (HBF.out.mono hz4).rep HPW.out.2
  ·have hb:=HB5.out
   repeat (first | exact hb | refine Below.setCell ?_ hwr _)
 ·have h0':=im7 h0
  have HM2:=hid (show makeF x p=⟨⟨[],[]⟩,⟨[],[]⟩,0⟩ from by rw[HM.out,if_neg h0])
  have R:=HS3.out.res
  obtain⟨r0,r1,r2,r3,r4⟩:=ysb7 R
  obtain⟨f0,f1,f2,f3,f4⟩:=grb7 R
  have hwr:=HS3.out.resB
  have HB:=hid HS3.out.bel
  clear h0 HM HPL
  go_wp2
  refine bodyPost_ret (v:=.tuple #[.agg #[.slice none 0 0,.slice none 0 0,.slice none 0 0,.slice none 0 0,.int .i64 0],.int .i64 cc]) (by simp[results,Tryz.results29,go_sem,r0,r1,r2,r3,r4]) rfl ⟨[.slice none 0 0,.slice none 0 0,.slice none 0 0,.slice none 0 0,.int .i64 0],by rw[← HCC.out], ?_, ?_⟩
  ·rw[HM2.out]
   exact⟨_,_,_,_,rfl,by unfold pa7;decide,⟨_,_,rfl,zh7 _ _ _,zh7 _ _ _⟩,⟨_,_,rfl,zh7 _ _ _,zh7 _ _ _⟩⟩
  ·have hb:=HB.out
   repeat (first | exact hb | refine Below.setCell ?_ hwr _)
theorem fh7 {α:Type}{l:List α}{k:Nat}(h:k<l.length) (z:α):l.getD k z∈l:=by
 rw[List.getD_eq_getElem?_getD,List.getElem?_eq_getElem h];exact List.getElem_mem h
structure dy7 (TR TI:Nat) (w:World) (B:Nat) (v:Value) (out:List (List Int)) (vs:List Value):Prop where
 own:w.ownsRow B TR 1 v out.length vs
 len:vs.length=out.length
 rows:∀i (h:i<out.length) (h':i<vs.length),w.ownsRow B TI 1 vs[i] out[i].length (out[i].map wa7)
section
variable {TR TI:Nat} {w w':World} {B:Nat} {v v' u:Value} {out:List (List Int)} {vs:List Value}
theorem dy7.nil (TR TI:Nat) (w:World) (B:Nat):dy7 TR TI w B (.slice none 0 0) [] [] :=
 ⟨World.ownsRow_nil _ _ _ _,rfl,fun _ h=>absurd h (Nat.not_lt_zero _)⟩
theorem dy7.below (h:dy7 TR TI w B v out vs) (hb:Below w.heap.size w w'):dy7 TR TI w' B v out vs :=
 ⟨oa7 h.own hb,h.len,fun i h1 h2=>oa7 (h.rows i h1 h2) hb⟩
theorem dy7.blockLt (h:dy7 TR TI w B v out vs):∀i (hi:i<vs.length) b,vs[i].ownBlock=some b→B≤b∧b<w.heap.size:=fun i hi b hb =>
 (h.rows i (by rw[← h.len];exact hi) hi).lt b hb
theorem dy7.keptSet {TP p j:Nat}{cs:List Value}(h:dy7 TR TI w B v out vs) (hr:Row w p TP cs) (h1:TP≠TR) (h2:TP≠TI):dy7 TR TI (w.setCell ⟨p,j,none⟩ u) B v out vs :=
 ⟨ma7 h.own hr h1 j u,h.len,fun i k1 k2=>ma7 (h.rows i k1 k2) hr h2 j u⟩
theorem dy7.mono {B':Nat}(h:dy7 TR TI w B v out vs) (hb:B'≤B):dy7 TR TI w B' v out vs :=
 ⟨pc7 h.own hb,h.len,fun i h1 h2=>pc7 (h.rows i h1 h2) hb⟩
theorem dy7.keptOwn {T k n B':Nat}{x:Value}{xs:List Value}(h:dy7 TR TI w B v out vs) (ho:w.ownsRow B' T k x n xs) (hg:w.grownBy w' x.ownBlock) (h1:TR≠T) (h2:TI≠T):dy7 TR TI w' B v out vs :=
 ⟨h.own.kept hg (fb7 h.own ho h1),h.len,fun i k1 k2=>(h.rows i k1 k2).kept hg (fb7 (h.rows i k1 k2) ho h2)⟩
theorem dy7.push {t:List Int}(h:dy7 TR TI w B v out vs) (hne:TI≠TR) (hg:w.grownBy w' v.ownBlock) (ho:w'.ownsRow B TR 1 v' (out.length+1) (vs++[u])) (hu:w.ownsRow B TI 1 u t.length (t.map wa7)):dy7 TR TI w' B v' (out++[t]) (vs++[u]):=by
 refine⟨by rw[List.length_append];exact ho,by simp[h.len],fun i h1 h2=>?_⟩
 by_cases hl:i<out.length
 ·have hl':i<vs.length:=by rw[h.len];exact hl
  rw[List.getElem_append_left hl',List.getElem_append_left hl]
  exact (h.rows i hl hl').kept hg (fb7 (h.rows i hl hl') h.own hne)
 ·have:i=out.length:=by simp at h1;omega
  subst this
  have e1:(vs++[u])[out.length]'h2=u:=by rw[List.getElem_append_right (by rw[h.len];exact Nat.le_refl _)];simp[h.len]
  have e2:(out++[t])[out.length]'h1=t:=by rw[List.getElem_append_right (Nat.le_refl _)];simp
  rw[e1,e2]
  exact hu.kept hg (fb7 hu h.own hne)
theorem dy7.rep (h:dy7 TR TI w B v out vs) (hw:∀t∈out,∀s∈t,pa7 s):oh7.rep w (fun b=>B≤b) out [v]:=by
 have hr:∀i (h1:i<out.length) (h2:i<vs.length),(ia7 dg7).rep w (fun b=>B≤b) out[i] [vs[i]]:=fun i h1 h2=>wk7 (h.rows i h1 h2) (hw _ (List.getElem_mem h1))
 rcases h.own.2 with ⟨rfl,hn⟩ | ⟨g,cap,cur,rfl,hg,hh,hn1,hc,hsz,ht⟩
 ·have:out=[]:=List.eq_nil_of_length_eq_zero hn
  subst this
  exact zh7 _ _ _
 ·have hR:Row w g TR vs:=⟨cur,cur.toList.drop (out.length*1),hh,by rw[← ht,List.take_append_drop]⟩
  refine qs7 (S:=ia7 dg7) (T:=TR) (vs.map fun v=>[v]) (by simp[h.len]) (fun v hv=>by obtain⟨u,_,rfl⟩:=List.mem_map.1 hv;rfl) (fun i h1 h2=>?_) ?_ hn1 hc hg
  ·rw[List.getElem_map];exact hr i h1 _
  ·have:(vs.map fun v=>[v]).flatten=vs:=by
    clear hR ht hr h
    induction vs with
    | nil=>rfl
    | cons a l ih=>rw[List.map_cons,List.flatten_cons,ih];rfl
   rw[this];exact hR
end
theorem yx7.blockLt {TR TI:Nat}{w:World}{B:Nat}{v:Value}{out:List dd7}{vs:List Value}(h:yx7 TR TI w B v out vs):∀i (hi:i<vs.length) b,vs[i].ownBlock=some b→B≤b∧b<w.heap.size:=fun i hi b hb =>
 (h.rows i (by rw[← h.len];exact hi) hi).lt b hb
theorem yx7.mono {TR TI:Nat}{w:World}{B B':Nat}{v:Value}{out:List dd7}{vs:List Value}(h:yx7 TR TI w B v out vs) (hb:B'≤B):yx7 TR TI w B' v out vs :=
 ⟨pc7 h.own hb,h.len,fun i h1 h2=>pc7 (h.rows i h1 h2) hb⟩
def Sep (vs:List Value):Prop:=vs.Pairwise fun a b=>a.ownBlock=none∨a.ownBlock≠b.ownBlock
theorem Sep.nil:Sep []:=List.Pairwise.nil
theorem Sep.push {vs:List Value}{u:Value}{n:Nat}(h:Sep vs) (hv:∀a∈vs,∀b,a.ownBlock=some b→b<n) (hu:∀b,u.ownBlock=some b→n≤b):Sep (vs++[u]):=by
 refine List.pairwise_append.2 ⟨h,List.pairwise_singleton _ _,fun a ha b hb=>?_⟩
 obtain rfl:=List.mem_singleton.1 hb
 cases e:a.ownBlock with
 | none=>exact .inl rfl
 | some k=>exact .inr fun e'=>by have:=hv a ha k e;have:=hu k e'.symm;omega
structure zy7 (x:ba7) (p:sa7):Prop where
 good:Good x
 tl:p.trucks.length≤100000
 t1:∀t∈p.trucks,t.length≤100000∧∀s∈t,0≤s.sat∧s.sat<x.sats.length
 bl:p.bikes.length≤100000
 b1:∀b∈p.bikes,b.stops.length≤100000∧(0≤b.sat∧b.sat<x.sats.length)∧∀c∈b.stops,zc7 x c
structure jtb7 (x:ba7) (st:SnT):Prop where
 now:0≤st.now∧st.now≤st.l.length*1000000000
 node:0≤st.node∧st.node<nodes x
 len:st.ready.length=x.sats.length
 rdy:∀v∈st.ready,0≤v∧v≤200000000000000
 l:∀v∈st.l,0≤v∧v≤st.l.length*1000000000
theorem jtb7.get {x:ba7}{st:SnT}(h:jtb7 x st) (i:Nat):0≤st.ready.getD i 0∧st.ready.getD i 0≤200000000000000:=by
 rw[List.getD_eq_getElem?_getD]
 by_cases e:i<st.ready.length
 ·rw[List.getElem?_eq_getElem e];exact h.rdy _ (List.getElem_mem e)
 ·rw[List.getElem?_eq_none (by omega)];simp
theorem jtb7.step {x:ba7}(gd:Good x) {st:SnT}{s:ea7}(h:jtb7 x st) (hl:st.l.length≤100000) (hs:0≤s.sat∧s.sat<x.sats.length):jtb7 x (ac7 x st s):=by
 have h1:=h.now
 have h2:=dc7 gd st.node (1+s.sat)
 have h3:=bs7 gd s.sat
 have h4:=h.get s.sat.toNat
 have hlen:(ac7 x st s).l.length=st.l.length+1:=by simp[ac7]
 refine⟨?_, ?_, ?_,fun v hv=>?_,fun v hv=>?_⟩
 ·rw[hlen];show 0≤st.now+_∧st.now+_≤_;push_cast;omega
 ·show 0≤1+s.sat∧1+s.sat<(nodes x:Int);unfold nodes;omega
 ·show (st.ready.set _ _).length=_;rw[List.length_set];exact h.len
 ·rcases List.mem_or_eq_of_mem_set hv with hv | rfl
  ·exact h.rdy _ hv
  ·omega
 ·rw[hlen]
  rcases List.mem_append.1 (show v∈st.l++[st.now+za7 x st.node (1+s.sat)] from hv) with hv | hv
  ·have:=h.l v hv;push_cast;omega
  ·obtain rfl:=List.mem_singleton.1 hv
   push_cast;omega
theorem wp7 {x:ba7}(gd:Good x) {t:List ea7}{st:SnT}(h:jtb7 x st) (hl:st.l=[]) (ht:t.length≤100000∧∀s∈t,0≤s.sat∧s.sat<x.sats.length):∀j,j≤t.length→jtb7 x ((t.take j).foldl (ac7 x) st)∧((t.take j).foldl (ac7 x) st).l.length=j
 | 0,_=>⟨h,by simp[hl]⟩
 | j+1,hj=>by
  obtain⟨h1,h2⟩:=wp7 gd h hl ht j (by omega)
  rw[mj7 (show j<t.length by omega),List.foldl_append]
  exact⟨h1.step gd (by omega) (ht.2 _ (List.getElem_mem _)),by simp[ac7,h2]⟩
structure sgc7 (x:ba7) (a:SnA):Prop where
 len:a.ready.length=x.sats.length
 rdy:∀v∈a.ready,0≤v∧v≤200000000000000
 ts:∀l∈a.ts,∀v∈l,0≤v∧v≤200000000000000
theorem sgc7.start (x:ba7) (a:SnA) (h:sgc7 x a):jtb7 x ⟨0,0,a.ready,[]⟩ :=
 ⟨⟨Int.le_refl _,by simp⟩,⟨Int.le_refl _,by show (0:Int)<(nodes x:Int);unfold nodes;omega⟩,h.len,h.rdy,fun v hv=>by cases hv⟩
theorem ak7 {x:ba7}{p:sa7}(h:zy7 x p):∀k,k≤p.trucks.length→sgc7 x (lb7 x (p.trucks.take k))∧(lb7 x (p.trucks.take k)).ts.length=k
 | 0,_=>⟨⟨List.length_replicate,fun v hv=>by rw[List.eq_of_mem_replicate hv];omega,fun l hl=>by cases hl⟩,rfl⟩
 | k+1,hk=>by
  obtain⟨h1,h2⟩:=ak7 h k (by omega)
  have ht:=h.t1 _ (List.getElem_mem (show k<p.trucks.length by omega))
  obtain⟨g1,g2⟩:=wp7 h.good (h1.start x _) rfl ht _ (Nat.le_refl _)
  rw[List.take_length]at g1 g2
  have e:lb7 x (p.trucks.take (k+1))=xd7 x (lb7 x (p.trucks.take k)) p.trucks[k]:=by
   unfold lb7
   rw[mj7 (show k<p.trucks.length by omega),List.foldl_append];rfl
  rw[e]
  refine⟨⟨g1.len,g1.rdy,fun l hl v hv=>?_⟩,by simp[xd7,h2]⟩
  rcases List.mem_append.1 hl with hl | hl
  ·exact h1.ts l hl v hv
  ·obtain rfl:=List.mem_singleton.1 hl
   have:=g1.l v hv
   rw[g2]at this
   have:=ht.1
   omega
structure pyb7 (x:ba7) (st:SnB):Prop where
 now:0≤st.now∧st.now≤300000000000000+st.starts.length*3000000000
 node:0≤st.node∧st.node<nodes x
 l:∀v∈st.starts,0≤v∧v≤300000000000000+st.starts.length*3000000000
theorem pyb7.step {x:ba7}(gd:Good x) {st:SnB}{c:Int}(h:pyb7 x st) (hl:st.starts.length≤100000) (hc:zc7 x c):pyb7 x (bc7 x st c):=by
 have h1:=h.now
 have h2:=dc7 gd st.node (1+x.sats.length+c)
 have h3:=wu7 gd hc
 have hlen:(bc7 x st c).starts.length=st.starts.length+1:=by simp[bc7]
 refine⟨?_, ?_,fun v hv=>?_⟩
 ·rw[hlen];show 0≤max _ _+_∧max _ _+_≤_;push_cast;omega
 ·show 0≤1+(x.sats.length:Int)+c∧1+(x.sats.length:Int)+c<(nodes x:Int);unfold nodes zc7 at *; omega
 ·rw[hlen]
  rcases List.mem_append.1 (show v∈st.starts++[max (st.now+za7 x st.node (1+x.sats.length+c)) (yb7 x c).opn] from hv) with hv | hv
  ·have:=h.l v hv;push_cast;omega
  ·obtain rfl:=List.mem_singleton.1 hv
   push_cast;omega
theorem pp7 {x:ba7}(gd:Good x) {t:List Int}{st:SnB}(h:pyb7 x st) (hl:st.starts=[]) (ht:t.length≤100000∧∀c∈t,zc7 x c):∀j,j≤t.length→pyb7 x ((t.take j).foldl (bc7 x) st)∧((t.take j).foldl (bc7 x) st).starts.length=j
 | 0,_=>⟨h,by simp[hl]⟩
 | j+1,hj=>by
  obtain⟨h1,h2⟩:=pp7 gd h hl ht j (by omega)
  rw[mj7 (show j<t.length by omega),List.foldl_append]
  exact⟨h1.step gd (by omega) (ht.2 _ (List.getElem_mem _)),by simp[bc7,h2]⟩
theorem ew7 {x:ba7}{ready:List Int}{b:ra7}(hl:ready.length=x.sats.length) (hr:∀v∈ready,0≤v∧v≤200000000000000) (hb:0≤b.sat∧b.sat<x.sats.length):pyb7 x ⟨ready.getD b.sat.toNat 0,1+b.sat,[]⟩:=by
 have h1:b.sat.toNat<ready.length:=by omega
 have h2:=hr _ (fh7 h1 0)
 exact⟨by show 0≤ready.getD b.sat.toNat 0∧ready.getD b.sat.toNat 0≤_;omega,by show 0≤1+b.sat∧1+b.sat<(nodes x:Int);unfold nodes;omega,fun v hv=>by cases hv⟩
theorem byb7 {x:ba7}{p:sa7}(h:zy7 x p):(∀t∈(ab7 x p).trucks,∀v∈t,0≤v∧v≤1000000000000000)∧∀r∈(ab7 x p).bikes,(0≤r.out∧r.out≤1000000000000000)∧(0≤r.back∧r.back≤1000000000000000)∧∀v∈r.starts,0≤v∧v≤1000000000000000:=by
 have hT:=(ak7 h p.trucks.length (Nat.le_refl _)).1
 rw[List.take_length]at hT
 refine⟨fun t ht v hv=>by have:=hT.ts t ht v hv;omega,fun r hr=>?_⟩
 obtain⟨b,hb,rfl⟩:=List.mem_map.1 (show r∈p.bikes.map (eh7 x (lb7 x p.trucks).ready) from hr)
 obtain⟨h1,h2,h3⟩:=h.b1 b hb
 have hs:=ew7 (b:=b) hT.len hT.rdy h2
 obtain⟨g1,g2⟩:=pp7 h.good hs rfl ⟨h1,h3⟩ _ (Nat.le_refl _)
 rw[List.take_length]at g1 g2
 have g3:=g1.now
 have g4:=hs.now
 have g5:=dc7 h.good (b.stops.foldl (bc7 x) ⟨(lb7 x p.trucks).ready.getD b.sat.toNat 0,1+b.sat,[]⟩).node (1+b.sat)
 rw[g2]at g3
 refine⟨?_, ?_,fun v hv=>?_⟩
 ·show 0≤(lb7 x p.trucks).ready.getD b.sat.toNat 0∧(lb7 x p.trucks).ready.getD b.sat.toNat 0≤_
  simp only[List.length_nil]at g4;omega
 ·show 0≤_+za7 x _ _∧_+za7 x _ _≤_
  unfold nd7;omega
 ·have:=g1.l v hv
  rw[g2]at this;omega
def fy7 (l:List Int) (n:Int):Int:=if l.length=0 then 0 else l.getD (n.toNat % l.length) 0
theorem hjc7:∀w,(sizeOf 29).run Tryz.prog w = .ok 1 w:=fun w=>by kernel_rfl
theorem ngc7 {w:World}{gn gs b off c:Nat}{a:Option Addr}{x n:Int}{l:List Int}(R:Row w gn 3 [.int .i64 n]) (hs:w.cell? ⟨gs,0,none⟩=some (.slice a l.length c)) (hne:gs≠gn) (hbn:b≠gn) (ha:0<l.length→a=some ⟨b,off,none⟩)
  (hl:∀k (h:k<l.length),w.cell? ⟨b,off+k,none⟩=some (.int .i8 l[k]) ∧ -128≤l[k]∧l[k]≤127) (hn:0≤n∧n≤1000000000000) (hx:-10000000000000000≤x∧x≤10000000000000000) (hll:l.length≤9223372036854775807) :
  Calls Tryz.prog 81 #[.int .i64 x,.pointer (some ⟨gn,0,none⟩),.pointer (some ⟨gs,0,none⟩)] w fun e w'=>e = .returned (.int .i64 (x+fy7 l n))∧Below (w.setCell ⟨gn,0,none⟩ (.int .i64 (n+1))).heap.size (w.setCell ⟨gn,0,none⟩ (.int .i64 (n+1))) w':=by
 have c0:=R.cell (j:=0) (by simp)
 have f0:=R.frozen 0
 simp only[List.getElem_cons_zero]at c0
 have R1:=R.set (j:=0) (by simp) (.int .i64 (n+1))
 have d0:=R1.cell (j:=0) (by simp)
 simp only[List.set_cons_zero,List.getElem_cons_zero]at d0
 have hs1:(w.setCell ⟨gn,0,none⟩ (.int .i64 (n+1))).cell? ⟨gs,0,none⟩=some (.slice a l.length c):=by
  rw[World.cell?_of_block (Below.heap_setCell _ _ _ _ hne)];exact hs
 have hl1:∀k (h:k<l.length),(w.setCell ⟨gn,0,none⟩ (.int .i64 (n+1))).cell? ⟨b,off+k,none⟩=some (.int .i8 l[k]):=fun k h=>by
  rw[World.cell?_of_block (Below.heap_setCell _ _ _ _ hbn)];exact (hl k h).1
 have HL:=hid hl
 have HA:=hid ha
 clear hl ha R R1 hs
 go_enter Tryz.func81,Tryz.ntmps81
 go_upto_region 2 with fail
 generalize hw1:w.setCell ⟨gn,0,none⟩ (.int .i64 (n+1))=w1 at d0 hs1 hl1 ⊢
 have HW:=hid hw1
 clear hw1
 clear c0 f0
 by_cases hz:l.length=0
 ·have HZ:=hid hz
  have hb:decide ((l.length:Int)=0)=true:=decide_eq_true (by omega)
  go_wp2
  go_ret
  exact⟨kb7 (by unfold fy7;rw[if_pos HZ.out,Int.add_zero]),by rw[HW.out];exact Below.refl _ _⟩
 ·have hb:decide ((l.length:Int)=0)=false:=decide_eq_false (by omega)
  obtain⟨k,hk⟩:∃k,k=n.toNat % l.length:=⟨_,rfl⟩
  have hkl:k<l.length:=by rw[hk];exact Nat.mod_lt _ (by omega)
  have hrem:n % (l.length:Int)=(k:Int):=by
   obtain⟨m,rfl⟩:=Int.eq_ofNat_of_zero_le hn.1
   rw[hk];rfl
  have he:=HA.out (by omega)
  subst he
  have ia:∀w,(Instr.indexAt 30 (.slice (some ⟨b,off,none⟩) l.length c) (.int .i64 (n % (l.length:Int)))).run Tryz.prog w = .ok (.pointer (some ⟨b,off+k,none⟩)) w:=fun w=>by rw[hrem];exact ga7 (c:=c) Tryz.underlying30 hjc7 (a:=some ⟨b,off,none⟩) rfl hkl w
  have hc:=hl1 k hkl
  have hbd:=(HL.out k hkl).2
  have HADD:=hid (show fy7 l n=l[k] from by unfold fy7;rw[if_neg hz,← hk,List.getD_eq_getElem?_getD,List.getElem?_eq_getElem hkl];rfl)
  generalize l[k]=q at hc hbd HADD
  clear hrem hk
  go_wp2_with fail
  have zd:∀e:At (Old w1),_:=fun e=>e.cell d0
  have zs:∀e:At (Old w1),_:=fun e=>e.cell hs1
  have zc:∀e:At (Old w1),_:=fun e=>e.cell hc
  refine ja7 (Old w1) [] [([0,1,2,3,4,5,6,7,8,9,10,11,12],13,false)] (by kernel_rfl) (by kernel_rfl) (fun _ _ d _ _ h=>by cases d <;> exact h) (Old.drew _) ?_
  simp only[lc7,List.map_cons,List.map_nil,Array.getD_eq_getD_getElem?,List.getElem?_toArray,List.getElem?_cons_succ,List.getElem?_cons_zero,Option.getD_some,me7]
  repeat (go_big_quiet_step (fail))
  refine wpQuiet_nil ?_
  go_wp2_with fail
  refine⟨Old.drew _, ?_⟩
  go_wp2
  go_ret
  exact⟨kb7 (by rw[HADD.out]),by rw[HW.out];exact Old.drew _⟩
def rm7 {α:Type} (P:Program) (t:TypeId) (S:Shape α):Prop :=
 ∀(H:Type) (enc:TypeId×Value→H) (w:World) (base:Nat) (spare:Nat→Bool) (held:Bool) (fuel:Nat) (cs:List Value) (x:DataW H×List MemPlace),DataW.trod enc P w base spare held fuel t cs=some x→∃y,S.rep w (fun _=>True) y cs
theorem vnb7 {P:Program}{t:TypeId}(ht:P.underlying t=some (.int .i64)):rm7 P t dg7:=by
 intro H enc w base spare held fuel cs x h
 cases fuel with
 | zero=>simp[DataW.trod]at h
 | succ n =>
  unfold DataW.trod at h
  rw[ht]at h
  split at h <;> simp_all
  rename_i k2 m e
  obtain⟨⟨_,hw⟩,-⟩:=h
  subst e
  refine⟨m,rfl, ?_⟩
  simpa[Lit.wf,IntKind.min,IntKind.max,IntKind.signed,IntKind.bits,pa7]using hw
theorem rvb7 {P:Program}{t:TypeId}(ht:P.underlying t=some (.int .u8)):rm7 P t u8S:=by
 intro H enc w base spare held fuel cs x h
 cases fuel with
 | zero=>simp[DataW.trod]at h
 | succ n =>
  unfold DataW.trod at h
  rw[ht]at h
  split at h <;> simp_all
  rename_i k2 m e
  obtain⟨⟨_,hw⟩,-⟩:=h
  subst e
  refine⟨m,rfl, ?_⟩
  simpa[Lit.wf,IntKind.min,IntKind.max,IntKind.signed,IntKind.bits,pa7]using hw
def dbc7:Shape Bool:=mc7 1 (fun x cs=>cs=[.bool x]) (by rintro x cs rfl;rfl)
theorem flb7 {P:Program}{t:TypeId}(ht:P.underlying t=some .bool):rm7 P t dbc7:=by
 intro H enc w base spare held fuel cs x h
 cases fuel with
 | zero=>simp[DataW.trod]at h
 | succ n =>
  unfold DataW.trod at h
  rw[ht]at h
  split at h
  all_goals first | exact⟨_,rfl⟩ | simp_all
theorem unb7 {α:Type}{p:Nat→α→Prop}:∀(n:Nat),(∀i,i<n→∃x,p i x)→∃xs:List α,xs.length=n∧∀i (h:i<xs.length),p i xs[i]
 | 0,_=>⟨[],rfl,fun _ h=>absurd h (Nat.not_lt_zero _)⟩
 | n+1,h=>by
  obtain⟨xs,hl,hx⟩:=unb7 n fun i hi=>h i (by omega)
  obtain⟨x,hp⟩:=h n (by omega)
  refine⟨xs++[x],by simp[hl],fun i hi=>?_⟩
  by_cases hlt:i<xs.length
  ·rw[List.getElem_append_left hlt];exact hx i hlt
  ·have:i=n:=by simp at hi;omega
   subst this
   rw[List.getElem_append_right (by omega)]
   simpa[hl]using hp
theorem anb7 {w:World}{a:Addr}{v:Value}(h:w.cell? a=some v):a.spot=none:=by
 unfold World.cell? at h
 split at h
 ·split at h
  ·cases h
  ·rename_i hs;simpa using hs
 ·cases h
theorem cm7 {α:Type}{P:Program}{t e:TypeId}{S:Shape α}{h0:0<S.sz}(ht:P.underlying t=some (.slice e)) (hc:P.cellsOf e=S.sz) (he:rm7 P e S):rm7 P t (ia7 S h0):=by
 intro H enc w base spare held fuel cs x h
 rcases Deep.open_slice ht h with ⟨rfl,-⟩ | ⟨a,len,cap,m,n,D,Pl,rfl,-,hl,hm,hmm,-,hx⟩
 ·exact⟨[],none,0,0,0,rfl,Nat.le_refl _,Nat.zero_le _,fun h=>absurd h (Nat.not_lt_zero _),fun i h=>absurd h (Nat.not_lt_zero _)⟩
 ·have hlm:len≤m:=by rw[hmm];split <;> omega
  obtain⟨xs,hxl,hxs⟩:=unb7 (p:=fun i y=>∃es,S.rep w (fun _=>True) y es∧∀j,j<S.sz→w.cell? ((a.add (i*S.sz)).add j)=es[j]?) len (fun i hi=>by
   obtain⟨cs',h1,h2⟩:=hx i (by omega)
   obtain⟨y,hy⟩:=he _ _ _ _ _ _ _ _ _ h2
   rw[hc]at h1
   obtain⟨_,_,h3⟩:=World.cells?_some h1
   exact⟨y,cs',hy,h3⟩)
  obtain⟨b,off,spot⟩:=a
  subst hxl
  have hsp:0<xs.length→spot=none:=fun hpos=>by
   obtain⟨es,hr,hce⟩:=hxs 0 hpos
   have hle:=S.len hr
   have:=hce 0 h0
   rw[List.getElem?_eq_getElem (by omega),Nat.zero_mul]at this
   simpa[Addr.add]using anb7 this
  refine⟨xs,some ⟨b,off,spot⟩,b,off,cap,rfl,hl,hm,fun hpos=>⟨by rw[hsp hpos],trivial⟩,fun i hi=>?_⟩
  obtain rfl:=hsp (by omega)
  obtain⟨es,hr,hce⟩:=hxs i hi
  refine⟨es,hr,fun j hj=>?_⟩
  rw[← hce j hj]
  congr 1
  by_cases e1:i*S.sz=0 <;> by_cases e2:j=0 <;> simp[Addr.add,e1,e2]
theorem ed7 {P:Program}{t:TypeId}{fs:Array Field}{H:Type}{enc:TypeId×Value→H}{w:World}{base:Nat}{spare:Nat→Bool}{held:Bool}{fuel:Nat}{cs:List Value}{x:DataW H×List MemPlace}
  (ht:P.underlying t=some (.struct fs)) (h:DataW.trod enc P w base spare held fuel t cs=some x) (i ft o k:Nat) (hf:(fs[i]?).map (fun f=>(f.type,f.offset))=some (ft,o)) (hk:P.cellsOf ft=k) :
  ∃n y,DataW.trod enc P w base spare held n ft ((cs.drop o).take k)=some y:=by
 obtain⟨xs,n,-,-,-,hl,hx⟩:=DataW.trod_struct ht h
 obtain⟨f,hf1,hf2⟩:=Option.map_eq_some_iff.1 hf
 simp only[Prod.mk.injEq]at hf2
 obtain⟨rfl,rfl⟩:=hf2
 have h1:=hx i f hf1
 have hi:i<xs.length:=by
  rw[hl]
  exact (Array.getElem?_eq_some_iff.1 hf1).1
 rw[List.getElem?_eq_getElem hi,hk]at h1
 exact⟨n,_,h1⟩
theorem fq7 {P:Program}{t:TypeId}{fs:Array Field}{H:Type}{enc:TypeId×Value→H}{w:World}{base:Nat}{spare:Nat→Bool}{held:Bool}{fuel:Nat}{cs:List Value}{x:DataW H×List MemPlace}
  (ht:P.underlying t=some (.struct fs)) (h:DataW.trod enc P w base spare held fuel t cs=some x):cs.length=P.cellsOf t:=by
 obtain⟨xs,n,-,-,hl,-⟩:=DataW.trod_struct ht h
 exact hl
theorem du7:Tryz.prog.cellsOf 5=1:=by kernel_rfl
theorem lsb7:Tryz.prog.cellsOf 4=1:=by kernel_rfl
theorem op7:rm7 Tryz.prog 5 u8S:=rvb7 Tryz.underlying5
theorem pbc7:rm7 Tryz.prog 2 dg7:=vnb7 Tryz.underlying2
theorem nsb7:rm7 Tryz.prog 4 dbc7:=flb7 Tryz.underlying4
theorem cr7:rm7 Tryz.prog 24 xc7:=cm7 (S:=u8S) Tryz.underlying24 du7 op7
theorem syb7:rm7 Tryz.prog 163 qgb7:=by
 intro H enc w base spare held fuel cs x h
 have hl:cs.length=2:=(fq7 Tryz.underlying163 h).trans (by kernel_rfl)
 match cs,hl with
 | [v0,v1],_ =>
  obtain⟨n0,y0,f0⟩:=ed7 Tryz.underlying163 h 0 5 0 1 rfl du7
  obtain⟨n1,y1,f1⟩:=ed7 Tryz.underlying163 h 1 5 1 1 rfl du7
  obtain⟨a0,e0,w0⟩:=op7 _ _ _ _ _ _ _ _ _ f0
  obtain⟨a1,e1,w1⟩:=op7 _ _ _ _ _ _ _ _ _ f1
  simp at e0 e1
  subst e0;subst e1
  exact⟨⟨a0,a1⟩,rfl,w0,w1⟩
theorem uyb7:rm7 Tryz.prog 165 tab7:=by
 intro H enc w base spare held fuel cs x h
 have hl:cs.length=4:=(fq7 Tryz.underlying165 h).trans (by kernel_rfl)
 match cs,hl with
 | [v0,v1,v2,v3],_ =>
  obtain⟨n0,y0,f0⟩:=ed7 Tryz.underlying165 h 0 5 0 1 rfl du7
  obtain⟨n1,y1,f1⟩:=ed7 Tryz.underlying165 h 1 5 1 1 rfl du7
  obtain⟨n2,y2,f2⟩:=ed7 Tryz.underlying165 h 2 5 2 1 rfl du7
  obtain⟨n3,y3,f3⟩:=ed7 Tryz.underlying165 h 3 5 3 1 rfl du7
  obtain⟨a0,e0,w0⟩:=op7 _ _ _ _ _ _ _ _ _ f0
  obtain⟨a1,e1,w1⟩:=op7 _ _ _ _ _ _ _ _ _ f1
  obtain⟨a2,e2,w2⟩:=op7 _ _ _ _ _ _ _ _ _ f2
  obtain⟨a3,e3,w3⟩:=op7 _ _ _ _ _ _ _ _ _ f3
  simp at e0 e1 e2 e3
  subst e0;subst e1;subst e2;subst e3
  exact⟨⟨a0,a1,a2,a3⟩,rfl,w0,w1,w2,w3⟩
theorem lub7:rm7 Tryz.prog 22 yy7:=cm7 (S:=qgb7) Tryz.underlying22 (by kernel_rfl) syb7
theorem aub7:rm7 Tryz.prog 23 tz7:=cm7 (S:=tab7) Tryz.underlying23 (by kernel_rfl) uyb7
theorem bwb7:rm7 Tryz.prog 26 mr7:=by
 intro H enc w base spare held fuel cs x h
 have hl:cs.length=11:=(fq7 Tryz.underlying26 h).trans (by kernel_rfl)
 match cs,hl with
 | [v0,v1,v2,v3,v4,v5,v6,v7,v8,v9,v10],_ =>
  obtain⟨_,_,f0⟩:=ed7 Tryz.underlying26 h 0 5 0 1 rfl du7
  obtain⟨_,_,f1⟩:=ed7 Tryz.underlying26 h 1 5 1 1 rfl du7
  obtain⟨_,_,f2⟩:=ed7 Tryz.underlying26 h 2 5 2 1 rfl du7
  obtain⟨_,_,f3⟩:=ed7 Tryz.underlying26 h 3 5 3 1 rfl du7
  obtain⟨_,_,f4⟩:=ed7 Tryz.underlying26 h 4 5 4 1 rfl du7
  obtain⟨_,_,f5⟩:=ed7 Tryz.underlying26 h 5 22 5 1 rfl (by kernel_rfl)
  obtain⟨_,_,f6⟩:=ed7 Tryz.underlying26 h 6 23 6 1 rfl (by kernel_rfl)
  obtain⟨_,_,f7⟩:=ed7 Tryz.underlying26 h 7 24 7 1 rfl (by kernel_rfl)
  obtain⟨_,_,f8⟩:=ed7 Tryz.underlying26 h 8 24 8 1 rfl (by kernel_rfl)
  obtain⟨_,_,f9⟩:=ed7 Tryz.underlying26 h 9 4 9 1 rfl lsb7
  obtain⟨_,_,f10⟩:=ed7 Tryz.underlying26 h 10 4 10 1 rfl lsb7
  obtain⟨a0,e0,w0⟩:=op7 _ _ _ _ _ _ _ _ _ f0
  obtain⟨a1,e1,w1⟩:=op7 _ _ _ _ _ _ _ _ _ f1
  obtain⟨a2,e2,w2⟩:=op7 _ _ _ _ _ _ _ _ _ f2
  obtain⟨a3,e3,w3⟩:=op7 _ _ _ _ _ _ _ _ _ f3
  obtain⟨a4,e4,w4⟩:=op7 _ _ _ _ _ _ _ _ _ f4
  obtain⟨a5,r5⟩:=lub7 _ _ _ _ _ _ _ _ _ f5
  obtain⟨a6,r6⟩:=aub7 _ _ _ _ _ _ _ _ _ f6
  obtain⟨a7,r7⟩:=cr7 _ _ _ _ _ _ _ _ _ f7
  obtain⟨a8,r8⟩:=cr7 _ _ _ _ _ _ _ _ _ f8
  obtain⟨a9,e9⟩:=nsb7 _ _ _ _ _ _ _ _ _ f9
  obtain⟨a10,e10⟩:=nsb7 _ _ _ _ _ _ _ _ _ f10
  simp[dbc7,mc7]at e0 e1 e2 e3 e4 e9 e10
  subst e0;subst e1;subst e2;subst e3;subst e4;subst e9;subst e10
  exact⟨⟨a0,a1,a2,a3,a4,a5,a6,a7,a8,a9,a10⟩,v5,v6,v7,v8,rfl,⟨w0,w1,w2,w3,w4⟩,r5,r6,r7,r8⟩
theorem us7 {P:Program}{w:World}{r:Reach}{base:Nat}{t:TypeId}{fs:Array Field}{v:Value}(ht:P.underlying t=some (.struct fs)) (h:Value.okWide P w r base t v):∃cs:List Value,v = .agg cs.toArray∧v.cells.toList=cs:=by
 unfold Value.okWide at h
 rw[ht]at h
 obtain⟨cs,rfl,-⟩:=h
 exact⟨cs.toList,by simp,by simp[Value.cells]⟩
open Go.RowKit Go.ChangeShapes
def i8S:Shape Int:=mc7 1 (fun x cs=>cs=[.int .i8 x]∧(-128≤x∧x≤127)) (by rintro x cs ⟨rfl,_⟩;rfl)
theorem xvb7 {P:Program}{t:TypeId}(ht:P.underlying t=some (.int .i8)):rm7 P t i8S:=by
 intro H enc w base spare held fuel cs x h
 cases fuel with
 | zero=>simp[DataW.trod]at h
 | succ n =>
  unfold DataW.trod at h
  rw[ht]at h
  split at h <;> simp_all
  rename_i k2 m e
  obtain⟨⟨_,hw⟩,-⟩:=h
  subst e
  refine⟨m,rfl, ?_⟩
  simpa[Lit.wf,IntKind.min,IntKind.max,IntKind.signed,IntKind.bits]using hw
theorem ucc7:rm7 Tryz.prog 29 i8S:=xvb7 Tryz.underlying29
theorem eyb7:rm7 Tryz.prog 28 egb7:=by
 intro H enc w base spare held fuel cs x h
 have hl:cs.length=3:=(fq7 Tryz.underlying28 h).trans (by kernel_rfl)
 match cs,hl with
 | [v0,v1,v2],_ =>
  obtain⟨_,_,f0⟩:=ed7 Tryz.underlying28 h 0 24 0 1 rfl (by kernel_rfl)
  obtain⟨_,_,f1⟩:=ed7 Tryz.underlying28 h 1 24 1 1 rfl (by kernel_rfl)
  obtain⟨_,_,f2⟩:=ed7 Tryz.underlying28 h 2 24 2 1 rfl (by kernel_rfl)
  obtain⟨a0,r0⟩:=cr7 _ _ _ _ _ _ _ _ _ f0
  obtain⟨a1,r1⟩:=cr7 _ _ _ _ _ _ _ _ _ f1
  obtain⟨a2,r2⟩:=cr7 _ _ _ _ _ _ _ _ _ f2
  exact⟨⟨a0,a1,a2⟩,v0,v1,v2,rfl,r0,r1,r2⟩
theorem dcb7 {P:Program}{w:World}{r:Reach}{base:Nat}{t:TypeId}{k:IntKind}{v:Value}(ht:P.underlying t=some (.int k)) (h:Value.okWide P w r base t v):v.cells.toList=[v]:=by
 unfold Value.okWide at h
 rw[ht]at h
 simp only[Cell.okWide,ht]at h
 cases v <;> simp_all [Value.cells,Cell.ok]
section
variable {H:Type} {enc:TypeId×Value→H} {P:Program} {w:World} {base:Nat} {spare:Nat→Bool} {held:Bool}
end
end Go.Proofs.YtabadfkikdefeaaGreat
namespace Go.Proofs.YtabadfkikdefeaaGreat
open Go.RowKit Go.WideShapes Go.ChangeShapes
theorem Tryz.own:ownKnob Tryz.prog.godebug=none:=by kernel_rfl
theorem Tryz.laid:laidOutB Tryz.prog=true:=by kernel_rfl
section
variable {H:Type} {enc:TypeId×Value→H} {P:Program}
theorem ur7 (hl:laidOutB P=true) {W W':World}(hb:Below W.heap.size W W') {sp:Nat→Bool}:∀(ts:List TypeId) (vs:List Value) (ds:List (DataW H)) (ps:List MemPlace),DataW.TrodAll enc P W 0 (fun _=>true) true ts vs ds ps →
  (∀t∈ts,P.readableRec t=true∧t<P.types.size)→(∀x∈ps,x.block<W.heap.size)→(∀x∈ps,sp x.block=true)→DataW.TrodAll enc P W' 0 sp true ts vs ds ps
 | [],[],[],_,h,_,_,_=>h
 | t::ts,v::vs,d::ds,ps,h,ht,hlt,hsp=>by
  obtain⟨p,q,h1,h2,rfl⟩:=h
  exact⟨p,q,WideElems.Trod_stays hl (ht t (List.mem_cons_self ..)).1 (ht t (List.mem_cons_self ..)).2 h1 (fun x hx=>hb.same (hlt x (List.mem_append_left _ hx))) (fun x hx=>hsp x (List.mem_append_left _ hx)),
   ur7 hl hb ts vs ds q h2 (fun t h=>ht t (List.mem_cons_of_mem _ h)) (fun x hx=>hlt x (List.mem_append_right _ hx)) (fun x hx=>hsp x (List.mem_append_right _ hx)),rfl⟩
 | [],_::_,_,_,h,_,_,_=>h.elim
 | [],[],_::_,_,h,_,_,_=>h.elim
 | _::_,[],_,_,h,_,_,_=>h.elim
 | _::_,_::_,[],_,h,_,_,_=>h.elim
theorem mtb7 {f:Func}{s:ChangeSpec}{fresh handsOn again:Bool}{W W':World}{args:Array Value}{ds gs:List (DataW H)}{before:List MemPlace}{bt:TypeId}(hl:laidOutB P=true)
  (hW:DataW.Whole enc P f.params.toList s.vars false W args.toList ds gs before) (hv:s.vars=[]) (hs:s.fn H (ds++gs)={ results:=[.lit (.bool true)],args:=ds }) (hr:f.resultTypes = #[bt]) (hbt:P.underlying bt=some .bool)
  (ht:∀t∈f.params.toList,P.readableRec t=true∧t<P.types.size) (hb:Below W.heap.size W W'):s.post enc P f false fresh handsOn again W args (.bool true) W':=by
 have hlt:∀p∈before,p.block<W.heap.size:=fun p hp=>hW.lt p hp
 have hW2:=hW
 obtain⟨pa,pv,hA,hV,rfl,hz,-⟩:=hW2
 have hpv:pv=[]:=by
  rw[hv]at hV
  cases gs with
  | nil=>exact hV
  | cons g gs=>exact hV.elim
 have hgs:gs=[]:=by
  rw[hv]at hV
  cases gs with
  | nil=>rfl
  | cons g gs=>exact hV.elim
 subst hpv
 have hres:∀(b:Nat) (sp:Nat→Bool) (hd:Bool),DataW.TrodAll enc P W' b sp hd f.resultTypes.toList ((Value.bool true).resultList f.resultTypes.size) (s.fn H (ds++gs)).results []:=fun b sp hd=>by
  rw[hs,hr]
  exact trodAll_mk1 (shut_bool hbt _)
 have hargs:∀sp:Nat→Bool,(∀p∈pa++[],sp p.block=true)→DataW.TrodAll enc P W' 0 sp true f.params.toList args.toList (s.fn H (ds++gs)).args pa:=fun sp hsp=>by
  rw[hs]
  exact ur7 hl hb _ _ _ _ hA ht (fun x hx=>hlt x (List.mem_append_left _ hx)) (fun x hx=>hsp x (List.mem_append_left _ hx))
 have hvars:∀sp:Nat→Bool,DataW.TrodVars enc P W' sp s.vars (s.fn H (ds++gs)).vars []:=fun sp=>by
  rw[hs,hv];rfl
 refine⟨ds,gs,pa++[],[],pa,[],hW,hres _ _ _,hargs _ (fun p hp=>by simpa using hlt p hp),hvars _,World.keptBut_mono (fun p hp=>⟨hp, ?_⟩) (hb.frame (· ∈ pa++[])),fun _=>?_⟩
 ·rw[List.append_nil]at hp
  exact Or.inr (.inl hp)
 ·refine⟨ok_one hr rfl (okWide_bool_mk hbt _),_,_,([]++pa)++[],⟨[]++pa,[],trodAll_append (hargs _ (fun _ _=>rfl)) (hres _ _ _),hvars _,rfl, ?_, ?_⟩, ?_⟩
  ·intro b off hp
   have hin:MemPlace.cell b off∈pa++[]:=by simpa using hp
   rw[hb.frozen (hlt _ hin)]
   exact hz b off hin
  ·intro ha;cases ha
  ·intro p hp _
   simpa using hp
end
end Go.Proofs.YtabadfkikdefeaaGreat
namespace Go.Proofs.YtabadfkikdefeaaGreat
open Go.RowKit Go.Lib
abbrev S (l:List UInt8):ByteArray:=ByteArray.mk (List.toArray l)
theorem xp7 (a b:List UInt8):S a++S b=S (a++b):=ByteArray.mk_append_mk a b
theorem orb7 (l:List UInt8):(S l).size=l.length:=rfl
theorem jib7 (u:Nat):0<(decDigits u).length:=by rw[decDigits_length];exact nDigits_pos u
theorem rtb7 (n:Int):0<(itoa n).length:=by
 unfold itoa
 split
 ·simp
 ·exact jib7 _
theorem xu7 {n:Int}(h:pa7 n):(itoa n).length≤21:=itoa_length_le n (by unfold pa7 at h;omega) (by unfold pa7 at h;omega)
def qh7 (b:List UInt8) (n:Int):List UInt8:=(if 0<b.length then b++[32] else b)++itoa n
def lnS (nm:List UInt8) (l:List Int):List UInt8:=l.foldl qh7 nm
def rg7 (nm:List UInt8) (l:List Int):List UInt8:=lnS nm l++[10]
theorem kbb7 (nm:List UInt8) (l:List Int) {i:Nat}(h:i<l.length):lnS nm (l.take (i+1))=qh7 (lnS nm (l.take i)) (l.getD i 0):=by
 unfold lnS
 rw[List.take_succ_eq_append_getElem h,List.foldl_append,List.getD_eq_getElem?_getD,List.getElem?_eq_getElem h]
 rfl
theorem vlb7 (b:List UInt8) (n:Int):0<(qh7 b n).length:=by
 have:=rtb7 n
 unfold qh7
 rw[List.length_append]
 omega
theorem hyb7 (nm:List UInt8) (l:List Int) {i:Nat}(h0:0<i) (h:i≤l.length):0<(lnS nm (l.take i)).length:=by
 obtain⟨i,rfl⟩:∃j,i=j+1:=⟨i-1,by omega⟩
 rw[kbb7 nm l (by omega)]
 exact vlb7 _ _
theorem hcb7:∀(l:List Int) (nm:List UInt8),(∀n∈l,pa7 n)→(lnS nm l).length≤nm.length+22*l.length
 | [],nm,_=>by simp[lnS]
 | n::l,nm,h=>by
  have h1:=hcb7 l (qh7 nm n) fun m hm=>h m (List.mem_cons_of_mem _ hm)
  have h2:=xu7 (h n (List.mem_cons_self ..))
  have h3:(qh7 nm n).length≤nm.length+1+(itoa n).length:=by
   unfold qh7
   split <;> simp <;> omega
  show (lnS (qh7 nm n) l).length≤_
  rw[List.length_cons]
  omega
theorem mv7 {l:List Int}{nm:List UInt8}(h:∀n∈l,pa7 n):(rg7 nm l).length≤nm.length+22*l.length+1:=by
 have:=hcb7 l nm h
 unfold rg7
 rw[List.length_append,List.length_singleton]
 omega
theorem wdb7 (nm:List UInt8) (l:List Int):0<(rg7 nm l).length:=by unfold rg7;simp
def tItem (t:List ea7) (u:List Int) (j:Nat):List Int:=[(t.getD j ⟨0,0⟩).sat,(t.getD j ⟨0,0⟩).load,u.getD j 0]
def tCells (t:List ea7) (u:List Int) (k:Nat):List Int:=(t.length:Int)::(List.range k).flatMap (tItem t u)
def bItem (b:ra7) (r:dd7) (j:Nat):List Int:=[b.stops.getD j 0,r.starts.getD j 0]
def kCells (b:ra7) (r:dd7) (k:Nat):List Int:=b.sat::r.out::(b.stops.length:Int)::(List.range k).flatMap (bItem b r)
theorem pj7 (t:List ea7) (u:List Int) (k:Nat):tCells t u (k+1)=tCells t u k++tItem t u k:=by
 unfold tCells
 rw[List.range_succ,List.flatMap_append]
 simp
theorem nj7 (b:ra7) (r:dd7) (k:Nat):kCells b r (k+1)=kCells b r k++bItem b r k:=by
 unfold kCells
 rw[List.range_succ,List.flatMap_append]
 simp
theorem wc7 (t:List ea7) (u:List Int):∀k,(tCells t u k).length=1+3*k
 | 0=>rfl
 | k+1=>by rw[pj7,List.length_append,wc7 t u k];simp[tItem];omega
theorem zd7 (b:ra7) (r:dd7):∀k,(kCells b r k).length=3+2*k
 | 0=>rfl
 | k+1=>by rw[nj7,List.length_append,zd7 b r k];simp[bItem];omega
def jcb7 (t:tb7) (i:Nat):dd7:=t.bikes.getD i ⟨0,[],0⟩
def pbb7 (p:sa7) (i:Nat):ra7:=p.bikes.getD i ⟨0,[]⟩
def ft7 (p:sa7) (i:Nat):List ea7:=p.trucks.getD i []
def ofb7 (p:sa7) (t:tb7) (i:Nat):List UInt8:=rg7 [] (tCells (ft7 p i) (t.trucks.getD i []) (ft7 p i).length)
def yub7 (p:sa7) (t:tb7) (i:Nat):List UInt8:=rg7 [] (kCells (pbb7 p i) (jcb7 t i) (pbb7 p i).stops.length++[(jcb7 t i).back])
def wf7 (p:sa7) (t:tb7) (k:Nat):List UInt8:=(List.range k).flatMap (ofb7 p t)
def qi7 (p:sa7) (t:tb7) (k:Nat):List UInt8:=(List.range k).flatMap (yub7 p t)
theorem sj7 (p:sa7) (t:tb7) (k:Nat):wf7 p t (k+1)=wf7 p t k++ofb7 p t k:=by
 unfold wf7
 rw[List.range_succ,List.flatMap_append]
 simp
theorem nl7 (p:sa7) (t:tb7) (k:Nat):qi7 p t (k+1)=qi7 p t k++yub7 p t k:=by
 unfold qi7
 rw[List.range_succ,List.flatMap_append]
 simp
def kp7 (p:sa7) (c:Int):List UInt8:=rg7 [112,108,97,110] [c]++rg7 [116,114,117,99,107,115] [(p.trucks.length:Int)]
def bgb7 (p:sa7) (t:tb7) (c:Int):List UInt8:=kp7 p c++wf7 p t p.trucks.length++rg7 [98,105,107,101,115] [(p.bikes.length:Int)]
def vz7 (p:sa7) (t:tb7) (c:Int):List UInt8:=bgb7 p t c++qi7 p t p.bikes.length++[101,110,100,10]
structure le7 (p:sa7) (t:tb7) (c:Int):Prop where
 nt:p.trucks.length≤100000
 nb:p.bikes.length≤100000
 st:∀l∈p.trucks,l.length≤30000∧∀s∈l,pa7 s.sat∧pa7 s.load
 sb:∀b∈p.bikes,b.stops.length≤30000∧pa7 b.sat∧∀c∈b.stops,pa7 c
 tt:∀l∈t.trucks,∀v∈l,pa7 v
 tb:∀r∈t.bikes,pa7 r.out∧pa7 r.back∧∀v∈r.starts,pa7 v
 c:pa7 c
theorem yi7 {α:Type}{P:α→Prop}{l:List α}{d:α}(h:∀x∈l,P x) (hd:P d) (i:Nat):P (l.getD i d):=by
 rw[List.getD_eq_getElem?_getD]
 by_cases hi:i<l.length
 ·rw[List.getElem?_eq_getElem hi];exact h _ (List.getElem_mem hi)
 ·rw[List.getElem?_eq_none (by omega)];exact hd
theorem w0:pa7 0:=by unfold pa7;omega
theorem wn {n:Nat}(h:n≤100000):pa7 (n:Int):=by unfold pa7;omega
theorem tp7 {n:Int}(hn:pa7 n) (nm:List UInt8):(rg7 nm [n]).length≤nm.length+23:=by
 have:=mv7 (nm:=nm) (l:=[n]) fun m hm=>by rw[List.mem_singleton.1 hm];exact hn
 simpa using this
section
variable {p:sa7} {t:tb7} {c:Int} (h:le7 p t c)
include h
theorem le7.truck (i:Nat):(ft7 p i).length≤30000∧∀s∈ft7 p i,pa7 s.sat∧pa7 s.load:=yi7 (P:=fun l:List ea7=>l.length≤30000∧∀s∈l,pa7 s.sat∧pa7 s.load) h.st ⟨by simp,fun s hs=>by cases hs⟩ i
theorem le7.bike (i:Nat):(pbb7 p i).stops.length≤30000∧pa7 (pbb7 p i).sat∧∀c∈(pbb7 p i).stops,pa7 c:=yi7 (P:=fun b:ra7=>b.stops.length≤30000∧pa7 b.sat∧∀c∈b.stops,pa7 c) h.sb ⟨by simp,w0,fun s hs=>by cases hs⟩ i
theorem le7.ride (i:Nat):pa7 (jcb7 t i).out∧pa7 (jcb7 t i).back∧∀v∈(jcb7 t i).starts,pa7 v:=yi7 (P:=fun r:dd7=>pa7 r.out∧pa7 r.back∧∀v∈r.starts,pa7 v) h.tb ⟨w0,w0,fun s hs=>by cases hs⟩ i
theorem le7.time (i:Nat):∀v∈t.trucks.getD i [],pa7 v:=yi7 (P:=fun l:List Int=>∀v∈l,pa7 v) h.tt (fun s hs=>by cases hs) i
theorem le7.tItem (i j:Nat):∀n∈tItem (ft7 p i) (t.trucks.getD i []) j,pa7 n:=by
 have h1:=yi7 (P:=fun s:ea7=>pa7 s.sat∧pa7 s.load) (d:=⟨0,0⟩) (h.truck i).2 ⟨w0,w0⟩ j
 have h2:=yi7 (P:=pa7) (d:=0) (h.time i) w0 j
 intro n hn
 simp only[Go.Proofs.YtabadfkikdefeaaGreat.tItem,List.mem_cons,List.not_mem_nil,or_false]at hn
 rcases hn with rfl | rfl | rfl
 ·exact h1.1
 ·exact h1.2
 ·exact h2
theorem le7.bItem (i j:Nat):∀n∈bItem (pbb7 p i) (jcb7 t i) j,pa7 n:=by
 have h1:=yi7 (P:=pa7) (d:=0) (h.bike i).2.2 w0 j
 have h2:=yi7 (P:=pa7) (d:=0) (h.ride i).2.2 w0 j
 intro n hn
 simp only[Go.Proofs.YtabadfkikdefeaaGreat.bItem,List.mem_cons,List.not_mem_nil,or_false]at hn
 rcases hn with rfl | rfl
 ·exact h1
 ·exact h2
theorem le7.tCells (i:Nat):∀k,∀n∈tCells (ft7 p i) (t.trucks.getD i []) k,pa7 n
 | 0,n,hn=>by
  simp only[Go.Proofs.YtabadfkikdefeaaGreat.tCells,List.range_zero,List.flatMap_nil,List.mem_cons,List.not_mem_nil,or_false]at hn
  rw[hn];exact wn (by have:=(h.truck i).1;omega)
 | k+1,n,hn=>by
  rw[pj7,List.mem_append]at hn
  exact hn.elim (le7.tCells i k n) (h.tItem i k n)
theorem le7.kCells (i:Nat):∀k,∀n∈kCells (pbb7 p i) (jcb7 t i) k,pa7 n
 | 0,n,hn=>by
  simp only[Go.Proofs.YtabadfkikdefeaaGreat.kCells,List.range_zero,List.flatMap_nil,List.mem_cons,List.not_mem_nil,or_false]at hn
  rcases hn with rfl | rfl | rfl
  ·exact (h.bike i).2.1
  ·exact (h.ride i).1
  ·exact wn (by have:=(h.bike i).1;omega)
 | k+1,n,hn=>by
  rw[nj7,List.mem_append]at hn
  exact hn.elim (le7.kCells i k n) (h.bItem i k n)
theorem le7.truckL (i:Nat):(ofb7 p t i).length≤1980023:=by
 have h1:=mv7 (nm:=[]) (h.tCells i (ft7 p i).length)
 rw[wc7]at h1
 have:=(h.truck i).1
 unfold ofb7
 simp only[List.length_nil]at h1
 omega
theorem le7.bikeL (i:Nat):(yub7 p t i).length≤1320089:=by
 have h1:=mv7 (nm:=[]) (l:=Go.Proofs.YtabadfkikdefeaaGreat.kCells (pbb7 p i) (jcb7 t i) (pbb7 p i).stops.length++[(jcb7 t i).back]) fun n hn=>by
  rcases List.mem_append.1 hn with hn | hn
  ·exact h.kCells i _ n hn
  ·rw[List.mem_singleton.1 hn];exact (h.ride i).2.1
 rw[List.length_append,zd7,List.length_singleton]at h1
 have:=(h.bike i).1
 unfold yub7
 simp only[List.length_nil]at h1
 omega
theorem le7.trucksL:∀k,(wf7 p t k).length≤1980023*k
 | 0=>Nat.zero_le _
 | k+1=>by
  have:=le7.trucksL k
  have:=h.truckL k
  rw[sj7,List.length_append]
  omega
theorem le7.bikesL:∀k,(qi7 p t k).length≤1320089*k
 | 0=>Nat.zero_le _
 | k+1=>by
  have:=le7.bikesL k
  have:=h.bikeL k
  rw[nl7,List.length_append]
  omega
theorem le7.headL:(kp7 p c).length≤56:=by
 have h1:=tp7 h.c [112,108,97,110]
 have h2:=tp7 (wn h.nt) [116,114,117,99,107,115]
 unfold kp7
 rw[List.length_append]
 simp only[List.length_cons,List.length_nil]at h1 h2
 omega
theorem le7.midL:(bgb7 p t c).length≤198002300100:=by
 have h1:=h.headL
 have h2:=h.trucksL p.trucks.length
 have h3:=tp7 (wn h.nb) [98,105,107,101,115]
 have h4:=h.nt
 unfold bgb7
 rw[List.length_append,List.length_append]
 simp only[List.length_cons,List.length_nil]at h3
 omega
end
end Go.Proofs.YtabadfkikdefeaaGreat
namespace Go.Proofs.YtabadfkikdefeaaGreat
open Go.RowKit Go.Lib
def omb7 (w:World) (base:Nat) (v:Value) (xs:List UInt8):Prop :=
 ∃g cap,v = .slice (some ⟨g,0,none⟩) xs.length cap∧(base≤g∧g<w.heap.size)∧xs.length≤cap∧cap≤maxLen∧(∀j,j<cap→(w.cell? ⟨g,j,none⟩).isSome=true∧w.frozen? ⟨g,j,none⟩=false) ∧
  ∀j (h:j<xs.length),w.cell? ⟨g,j,none⟩=some (.int .u8 (xs[j].toNat:Int))
theorem zkb7 {w w':World}{g:Nat}(h:w'.heap[g]? = w.heap[g]?) (j:Nat):w'.frozen? ⟨g,j,none⟩=w.frozen? ⟨g,j,none⟩:=by simp[World.frozen?,h]
theorem omb7.below {w w':World}{base:Nat}{v:Value}{xs:List UInt8}(h:omb7 w base v xs) (hb:Below w.heap.size w w'):omb7 w' base v xs:=by
 obtain⟨g,cap,h1,h2,h3,h4,h5,h6⟩:=h
 have hk:=hb.block g h2.2
 have hc:∀j,w'.cell? ⟨g,j,none⟩=w.cell? ⟨g,j,none⟩:=fun j=>World.cell?_of_block (a:=⟨g,j,none⟩) hk
 exact⟨g,cap,h1,⟨h2.1,Nat.lt_of_lt_of_le h2.2 hb.size⟩,h3,h4,fun j hj=>by rw[hc,zkb7 hk];exact h5 j hj,fun j hj=>by rw[hc];exact h6 j hj⟩
theorem below_setCells {B g:Nat}(hg:B≤g):∀(vs:List Value) (o:Nat) {a w:World},Below B a w→Below B a (w.setCells g o vs)
 | [],_,_,_,h=>h
 | v::r,o,_,_,h=>below_setCells hg r (o+1) (h.setCell hg v)
theorem size_setCells (g:Nat):∀(vs:List Value) (o:Nat) (w:World),(w.setCells g o vs).heap.size=w.heap.size
 | [],_,_=>rfl
 | v::r,o,w=>by rw[World.setCells,size_setCells g r];simp[World.setCell]
theorem ax7 (b:Nat):∀(vs:List Value) (o:Nat) (w:World) (x:Addr),(w.cell? x).isSome=true→((w.setCells b o vs).cell? x).isSome=true
 | [],_,_,_,h=>h
 | v::r,o,w,x,h=>by
  rw[World.setCells]
  refine ax7 b r (o+1) _ x ?_
  obtain⟨u,hu⟩:=Option.isSome_iff_exists.1 h
  by_cases e:(⟨b,o,none⟩:Addr)=x
  ·subst e;rw[World.cell?_setCell_same _ _ _ hu];rfl
  ·rw[World.cell?_setCell_other _ _ _ _ e,hu];rfl
theorem rac7:(Tryz.prog.info? 5).map (fun i=>(i.zero,i.size,i.bytes))=some (some (.int .u8 0),1,1):=by kernel_rfl
theorem btb7 (w:World) (l:List UInt8):Src Tryz.prog 1 9 (.string (S l)) l.length (Lib.byteCells l) w:=Src.ofString (P:=Tryz.prog) w Tryz.underlying9 (S l)
theorem ncb7 {w:World}{base:Nat}{v:Value}{xs:List UInt8}(h:omb7 w base v xs) {tx:TypeId}{xv:Value}{news:List UInt8}(hs:Src Tryz.prog 1 tx xv news.length (Lib.byteCells news) w) (hlen:xs.length+news.length≤1099511627776) (hbase:base≤w.heap.size) (rt:TypeId) :
  ∃v' w',(Builtin.append_ #[24,tx] rt #[v,xv]).run Tryz.prog w = .ok v' w'∧omb7 w' base v' (xs++news)∧Below base w w':=by
 obtain⟨g,cap,rfl,h2,h3,h4,h5,h6⟩:=h
 obtain⟨i,hi,hz,hsz,hby⟩:=info_parts rac7
 have hone:∀u∈Lib.byteCells news,u.oneCell'=true:=hs.one
 have hs':Src Tryz.prog i.size tx xv news.length (Lib.byteCells news) w:=by rw[hsz];exact hs
 by_cases hroom:xs.length+news.length≤cap
 ·have hr:=run_append_room_src w 24 tx rt 5 i Tryz.underlying24 hi g 0 xs.length cap xv news.length (Lib.byteCells news) hs' hroom
   (fun j hj=>by rw[Lib.byteCells_length]at hj;rw[hsz];exact (h5 _ (by omega)).1) (fun j hj=>by rw[Lib.byteCells_length]at hj;rw[hsz];exact (h5 _ (by omega)).2)
  rw[hsz]at hr
  have hb:Below base w (w.setCells g (0+xs.length*1) (Lib.byteCells news)):=below_setCells h2.1 _ _ (Below.refl _ _)
  have hin:=World.cell?_setCells_in g (Lib.byteCells news) (0+xs.length*1) w (fun j hj=>by rw[Lib.byteCells_length]at hj;exact (h5 _ (by omega)).1)
  have hout:=World.cell?_setCells_out g (Lib.byteCells news) (0+xs.length*1) w
  refine⟨_,_,hr,⟨g,cap,by rw[List.length_append],⟨h2.1,by rw[size_setCells];exact h2.2⟩,by rw[List.length_append];exact hroom,h4,fun j hj=>⟨?_, ?_⟩,fun j hj=>?_⟩,hb⟩
  ·exact ax7 g _ _ w _ (h5 j hj).1
  ·rw[World.frozen?_setCells];exact (h5 j hj).2
  ·rw[List.length_append]at hj
   by_cases hjl:j<xs.length
   ·rw[hout _ (fun _ _=>.inl (by simp only;omega)),h6 j hjl,List.getElem_append_left hjl]
   ·have hk:j-xs.length<(Lib.byteCells news).length:=by rw[Lib.byteCells_length];omega
    have:=hin (j-xs.length) hk
    rw[show 0+xs.length*1+(j-xs.length)=j by omega]at this
    rw[this,List.getElem_append_right (by omega)]
    simp[Lib.byteCells]
 ·have hold:(Builtin.firstCells i.size xs.length (.slice (some ⟨g,0,none⟩) xs.length cap)).run Tryz.prog w.drew = .ok (Lib.byteCells xs).toArray w.drew:=by
   rw[hsz]
   refine run_firstCells_some (P:=Tryz.prog) w.drew 1 xs.length ⟨g,0,none⟩ xs.length cap _ (by rw[Lib.byteCells_length,Nat.mul_one]) (fun j u hj=>?_)
   have hjl:=(List.getElem?_eq_some_iff.1 hj).1
   rw[Lib.byteCells_length]at hjl
   have e:=(List.getElem?_eq_some_iff.1 hj).2
   rw[Addr.add_lit]
   have:=h6 j hjl
   rw[show (⟨g,0+j,none⟩:Addr)=⟨g,j,none⟩ by rw[Nat.zero_add]]
   rw[show w.drew.cell? ⟨g,j,none⟩=w.cell? ⟨g,j,none⟩ from rfl,this,← e]
   simp[Lib.byteCells]
  have hr:=run_append_grow_src w 24 tx rt 5 i _ Tryz.underlying24 hi hz (some ⟨g,0,none⟩) xs.length cap (Lib.byteCells xs) hold xv news.length (Lib.byteCells news) hs' (by omega) (by omega)
   (growslice_fits (by omega) (by rw[hby];omega))
  have hge:=grownCap_ge w (xs.length+news.length) cap 5
  have hcm:=grownCap_le_maxLen w (xs.length+news.length) cap 5 (by unfold maxLen;omega)
  have hnew:=heap_alloc_new w.drew (.cells ((Lib.byteCells xs++Lib.byteCells news).toArray++Builtin.zeroCells (Value.int .u8 0).cells (grownCap w (xs.length+news.length) cap 5-(xs.length+news.length))) 5)
  have hcs:((Lib.byteCells xs++Lib.byteCells news).toArray++Builtin.zeroCells (Value.int .u8 0).cells (grownCap w (xs.length+news.length) cap 5-(xs.length+news.length))).size=grownCap w (xs.length+news.length) cap 5:=by
   simp only[Array.size_append,List.size_toArray,List.length_append,Lib.byteCells_length,size_zeroCells,show (Value.int .u8 0).cells.size=1 from rfl];omega
  refine⟨_,_,hr,⟨w.heap.size,_,by rw[List.length_append],⟨hbase,(Array.getElem?_eq_some_iff.1 hnew).1⟩,by rw[List.length_append];exact hge,hcm,fun j hj=>⟨?_, ?_⟩,fun j hj=>?_⟩, ?_⟩
  ·have hnew':(w.drew.alloc (.cells ((Lib.byteCells xs++Lib.byteCells news).toArray++Builtin.zeroCells (Value.int .u8 0).cells (grownCap w (xs.length+news.length) cap 5-(xs.length+news.length))) 5)).heap[w.heap.size]? = _:=hnew
   simp only[World.cell?,hnew',Option.isSome_none,Bool.false_eq_true,if_false]
   rw[Array.getElem?_eq_getElem (by rw[hcs];exact hj)];rfl
  ·exact Lib.frozen_of_heap hnew _
  ·have hnew':(w.drew.alloc (.cells ((Lib.byteCells xs++Lib.byteCells news).toArray++Builtin.zeroCells (Value.int .u8 0).cells (grownCap w (xs.length+news.length) cap 5-(xs.length+news.length))) 5)).heap[w.heap.size]? = _:=hnew
   simp only[World.cell?,hnew',Option.isSome_none,Bool.false_eq_true,if_false]
   rw[List.length_append]at hj
   rw[Array.getElem?_append_left (by simp[Lib.byteCells_length];exact hj),List.getElem?_toArray,← Lib.byteCells_append]
   rw[show (Lib.byteCells (xs++news))[j]? = some (.int .u8 (((xs++news)[j]'(by rw[List.length_append];exact hj)).toNat:Int)) by
    simp only[Lib.byteCells,List.getElem?_map]
    rw[List.getElem?_eq_getElem (by rw[List.length_append];exact hj)];rfl]
  ·exact (Below.refl base w).drew.alloc hbase _
theorem cvb7 {w:World}{base:Nat}(hbase:base≤w.heap.size) (l:List UInt8) (hl:l.length≤1099511627776):∃v' w',(convert 9 24 (.string (S l))).run Tryz.prog w = .ok v' w'∧omb7 w' base v' l∧Below base w w':=by
 have hr:=run_bytes_of_string w 9 24 5 (S l) Tryz.underlying9 Tryz.underlying24 Tryz.underlying5
 have hge:=grownCap_ge w l.length 0 5
 have hcm:=grownCap_le_maxLen w l.length 0 5 (by unfold maxLen;omega)
 rw[orb7]at hr
 generalize hc:grownCap w l.length 0 5=cap at hr hge hcm
 have hsz:(bytesRow (S l) cap).size=cap:=by
  unfold bytesRow
  simp[ByteArray.size];omega
 have hcell:∀j,(w.drew.alloc (.cells (bytesRow (S l) cap) 5 ((bytesRow (S l) cap).size,(bytesRow (S l) cap).size+1))).cell? ⟨w.heap.size,j,none⟩=(bytesRow (S l) cap)[j]? := fun j=>World.cell?_alloc_mark w.drew _ _ _ j
 have hfro:∀j,(w.drew.alloc (.cells (bytesRow (S l) cap) 5 ((bytesRow (S l) cap).size,(bytesRow (S l) cap).size+1))).frozen? ⟨w.heap.size,j,none⟩=(decide ((bytesRow (S l) cap).size≤j)&&decide (j<(bytesRow (S l) cap).size+1)):=fun j=>World.frozen?_alloc_mark w.drew _ _ _ _ j
 refine⟨_,_,hr,⟨w.heap.size,cap,rfl,⟨hbase,by simp⟩,hge,hcm,fun j hj=>⟨?_, ?_⟩,fun j hj=>?_⟩,(Below.refl base w).drew.alloc hbase _⟩
 ·rw[hcell,Array.getElem?_eq_getElem (by rw[hsz];exact hj)];rfl
 ·rw[hfro,hsz];simp;omega
 ·rw[hcell,bytesRow_at (S l) cap j (by simpa[ByteArray.size]using hj)];rfl
theorem cub7 {w:World}{base:Nat}{v:Value}{l:List UInt8}(h:omb7 w base v l):(convert 24 9 v).run Tryz.prog w = .ok (.string (S l)) w:=by
 obtain⟨g,cap,rfl,-,-,-,-,h6⟩:=h
 refine run_convert_bytes_back w 24 9 5 ⟨g,0,none⟩ cap l Tryz.underlying24 Tryz.underlying5 Tryz.underlying9 fun j hj=>?_
 rw[Addr.add_lit,Nat.zero_add]
 exact h6 j hj
end Go.Proofs.YtabadfkikdefeaaGreat
namespace Go.Proofs.YtabadfkikdefeaaGreat
open Go.RowKit Go.Lib
def ghb7 (n:Int):Int:=(n.natAbs:Int)
theorem wzb7 {n:Int}(hn:pa7 n) (w:World):Calls Tryz.prog 179 #[.int .i64 n] w fun e w'=>e = .returned (.int .u64 (ghb7 n))∧w'=w:=by
 unfold pa7 at hn
 go_enter Tryz.func179,Tryz.ntmps179
 go_wp2
 ·rename_i h
  have e:IntKind.u64.wrap (-IntKind.u64.wrap n)=ghb7 n:=by
   rw[IntKind.wrap_u64,IntKind.wrap_u64];unfold ghb7;omega
  go_ret
  exact⟨by rw[e];rfl,rfl⟩
 ·rename_i h
  have e:n=ghb7 n:=by unfold ghb7;omega
  go_ret
  exact⟨by rw[← e];rfl,rfl⟩
def lfb7 (ds:List UInt8):List Value:=List.replicate (20-ds.length) (.int .u8 0)++Lib.byteCells ds
theorem ijb7 {ds:List UInt8}(h:ds.length≤20):(lfb7 ds).length=20:=by
 unfold lfb7
 rw[List.length_append,List.length_replicate,Lib.byteCells_length];omega
theorem jkb7 {ds:List UInt8}(h:ds.length<20) (b:UInt8):(lfb7 ds).set (19-ds.length) (.int .u8 b.toNat)=lfb7 (b::ds):=by
 unfold lfb7
 have e:20-ds.length=(19-ds.length)+1:=by omega
 rw[e,List.replicate_succ',List.append_assoc,List.set_append_right _ _ (by simp),List.length_replicate,Nat.sub_self]
 simp[Lib.byteCells]
theorem qtb7 {ds:List UInt8}(h:ds.length≤20) {j:Nat}(hj:j<ds.length):(lfb7 ds)[20-ds.length+j]? = some (.int .u8 ((ds[j]).toNat:Int)):=by
 unfold lfb7
 rw[List.getElem?_append_right (by simp),List.length_replicate,show 20-ds.length+j-(20-ds.length)=j by omega]
 simp[Lib.byteCells,hj]
theorem trb7 {w:World}{q:Nat}{e:TypeId}{l:List UInt8}(h:Row w q e (lfb7 l)) (hl:l.length≤20) {o c n:Nat}(ho:o+l.length=20) (hn:n=l.length) :
  (convert 24 9 (.slice (some ⟨q,o,none⟩) n c)).run Tryz.prog w = .ok (.string (S l)) w:=by
 subst hn
 refine run_convert_bytes_back w 24 9 5 ⟨q,o,none⟩ c l Tryz.underlying24 Tryz.underlying5 Tryz.underlying9 fun j hj=>?_
 rw[Addr.add_lit]
 have h1:=qtb7 hl hj
 rw[show 20-l.length+j=o+j by omega]at h1
 obtain⟨h2,h3⟩:=List.getElem?_eq_some_iff.1 h1
 rw[h.cell h2,h3]
theorem pwb7 {q i:Nat}{z:Int}(hz:z=(i:Int)) (hi:i≤19) (w:World) :
  (Instr.sliceAt 280 (.pointer (some ⟨q,0,none⟩)) (some (.int .i64 z)) none none).run Tryz.prog w = .ok (.slice (some ⟨q,i,none⟩) (20-i) (20-i)) w:=by
 subst hz
 simp[Instr.sliceAt,run_underlying Tryz.underlying280,Instr.sliceBounds,Instr.sliceBound,asIntOf,Instr.sureAddr]
 rw[if_pos (by omega),if_neg (by omega),Addr.add_lit,Nat.zero_add]
theorem hrb7:∀(k u:Nat),u<10 ^ (k+1)→nDigits u≤k+1
 | 0,u,h=>by rw[nDigits_small (by simpa using h)];exact Nat.le_refl _
 | k+1,u,h=>by
  by_cases h1:u<10
  ·rw[nDigits_small h1];omega
  ·rw[nDigits_big h1]
   have:=hrb7 k (u / 10) (by rw[Nat.pow_succ]at h;omega)
   omega
theorem dfc7 {m:Nat}(h:m≤9223372036854775808):(decDigits m).length≤19:=by
 rw[decDigits_length]
 exact hrb7 18 m (by have:(10:Nat) ^ (18+1)=10000000000000000000:=(by decide);omega)
theorem qfb7 {u:Nat}(h:u<10):decDigits u=[UInt8.ofNat (48+u % 10)]:=by rw[decDigits,dif_pos h,Nat.mod_eq_of_lt h]
theorem hob7 {u:Nat}(h:¬u<10):decDigits u=decDigits (u / 10)++[UInt8.ofNat (48+u % 10)]:=by rw[decDigits,dif_neg h]
theorem zob7 {n:Int}(hn:pa7 n) (w:World):Calls Tryz.prog 126 #[.int .i64 n] w fun e w'=>e = .returned (.string (S (itoa n)))∧Below w.heap.size w w':=by
 obtain⟨m,hm⟩:∃m:Nat,m=n.natAbs:=⟨_,rfl⟩
 have hm19:(decDigits m).length≤19:=dfc7 (by rw[hm];unfold pa7 at hn;omega)
 have R0:=Row.new (w:=w) (e:=280) (cs:=lfb7 []) rfl
 have hb0:Below w.heap.size w (w.alloc (.cells (lfb7 []).toArray 280)):=(Below.refl _ _).alloc (Nat.le_refl _) _
 have hz:(lfb7 []).toArray = #[.int .u8 0,.int .u8 0,.int .u8 0,.int .u8 0,.int .u8 0,.int .u8 0,.int .u8 0,.int .u8 0,.int .u8 0,.int .u8 0,.int .u8 0,.int .u8 0,.int .u8 0,.int .u8 0,.int .u8 0,.int .u8 0,.int .u8 0,.int .u8 0,.int .u8 0,.int .u8 0]:=rfl
 have HR:=hid R0
 have HB:=hid hb0
 clear R0 hb0
 go_enter Tryz.func126,Tryz.ntmps126
 go_wp2_with (go_at_call 179;refine (wzb7 hn _).mono ?_)
 rintro e w1 ⟨rfl,rfl⟩
 rw[← hz]
 have HE:=hid hz
 clear hz
 generalize w.alloc (.cells (lfb7 []).toArray 280)=w1 at HR HB ⊢
 obtain⟨q,hq⟩:∃q,q=w.heap.size:=⟨_,rfl⟩
 rw[← hq]at HR ⊢
 have hsz:ghb7 n=(m:Int):=by unfold ghb7;rw[hm]
 rw[hsz]
 have HM:=hid hm
 clear hsz HE hm
 have hm2:m≤9223372036854775808:=by have:=HM.out;unfold pa7 at hn;omega
 have HQ:w.heap.size≤q:=by omega
 clear hq
 go_wp2
 go_loopw [4,5] (fun iv uv wr=>∃(ds:List UInt8) (u k:Nat),decDigits m=decDigits u++ds∧ds.length+k=19∧u≤9223372036854775808∧iv = .int .i64 ((k:Int)+1)∧uv = .int .u64 u∧Row wr q 280 (lfb7 ds)∧Below w.heap.size w wr) (fun _ uv _=>(RowKit.intOf uv).toNat)
 case atStart=>exact⟨[],m,19,by simp,rfl,hm2,rfl,rfl,HR.out,HB.out⟩
 case round =>
  clear HR HB
  obtain⟨ds,u,k,hd,hdl,hu,rfl,rfl,hr,hb⟩:=hrel
  have HB:=hid hb
  have hk:k≤19:=by omega
  have hfz:=hr.frozen k
  have hkl:k<(lfb7 ds).length:=by rw[ijb7 (by omega)];omega
  obtain⟨v0,hce⟩:∃v0,wr.cell? ⟨q,k,none⟩=some v0:=⟨_,hr.cell hkl⟩
  obtain⟨b,hbe⟩:∃b,b=UInt8.ofNat (48+u % 10):=⟨_,rfl⟩
  have hbv:(48:Int)+(u:Int) % 10=(b.toNat:Int):=by rw[hbe,UInt8.toNat_ofNat'];omega
  have hr2:Row (wr.setCell ⟨q,k,none⟩ (.int .u8 (48+(u:Int) % 10))) q 280 (lfb7 (b::ds)):=by
   rw[hbv,← jkb7 (by omega),show 19-ds.length=k by omega]
   exact hr.set hkl _
  have hb2:Below w.heap.size w (wr.setCell ⟨q,k,none⟩ (.int .u8 (48+(u:Int) % 10))):=hb.setCell HQ _
  have HR:=hid hr2
  have HB2:=hid hb2
  have HBV:=hid hbv
  clear hr hb hkl hr2 hb2 hbv
  by_cases h10:u<10
  ·rw[qfb7 h10,← hbe]at hd
   have hml:(b::ds).length≤19:=by have:=congrArg List.length hd;simp at this;simp;omega
   have hk1:1≤k:=by simp at hml;omega
   have HD:=hid hd
   clear hd hbe
   have h10':((u:Int)<10):=by omega
   by_cases hneg:n<0
   ·have hfz2:=HR.out.frozen (k-1)
    have hkl2:k-1<(lfb7 (b::ds)).length:=by rw[ijb7 (by omega)];omega
    obtain⟨v1,hce2⟩:∃v1,(wr.setCell ⟨q,k,none⟩ (.int .u8 (48+(u:Int) % 10))).cell? ⟨q,k-1,none⟩=some v1:=⟨_,HR.out.cell hkl2⟩
    have hr3:=HR.out.set hkl2 (.int .u8 45)
    rw[show k-1=19-(b::ds).length by simp;omega]at hr3
    have hr4:Row ((wr.setCell ⟨q,k,none⟩ (.int .u8 (48+(u:Int) % 10))).setCell ⟨q,k-1,none⟩ (.int .u8 45)) q 280 (lfb7 (45::b::ds)):=by
     rw[← jkb7 (ds:=b::ds) (by omega) 45,show k-1=19-(b::ds).length by simp;omega]
     exact hr3
    have hcv:=trb7 hr4 (by simp at hml ⊢; omega) (o:=k-1) (c:=20-(k-1)) (n:=20-(k-1)) (by simp;omega) (by simp;omega)
    have hb3:Below w.heap.size w ((wr.setCell ⟨q,k,none⟩ (.int .u8 (48+(u:Int) % 10))).setCell ⟨q,k-1,none⟩ (.int .u8 45)):=HB2.out.setCell HQ _
    have hsl:=pwb7 (q:=q) (i:=k-1) (z:=(k:Int)-1) (by omega) (by omega)
    have HB3:=hid hb3
    clear hkl2 hr3 hr4 hb3
    go_wp2
    go_ret
    refine⟨?_,HB3.out⟩
    have hi:itoa n=45::b::ds:=by
     have hd:=HD.out
     unfold itoa
     rw[if_pos hneg,← HM.out,hd];rfl
    rw[hi];rfl
   ·have hcv:=trb7 HR.out (by omega) (o:=k) (c:=20-k) (n:=20-k) (by simp;omega) (by simp;omega)
    have hsl:=pwb7 (q:=q) (i:=k) (z:=(k:Int)) rfl (by omega)
    go_wp2
    go_ret
    refine⟨?_,HB2.out⟩
    have hi:itoa n=b::ds:=by
     have hd:=HD.out
     unfold itoa
     rw[if_neg (by omega),show n.toNat=m by have:=HM.out;omega,hd];rfl
    rw[hi];rfl
  ·rw[hob7 h10,← hbe,List.append_assoc]at hd
   have hml:(b::ds).length≤18:=by
    have h1:=congrArg List.length hd
    have h2:=jib7 (u / 10)
    simp at h1;simp;omega
   have h10':¬((u:Int)<10):=by omega
   have HD:=hid hd
   clear hd hbe
   go_wp2
   go_roundw
   ·exact⟨b::ds,u / 10,k-1,HD.out,by simp at hml ⊢; omega,by omega,by congr 1;simp at hml;omega,by simp,HR.out,HB2.out⟩
   ·simp[RowKit.intOf];omega
end Go.Proofs.YtabadfkikdefeaaGreat
namespace Go.Proofs.YtabadfkikdefeaaGreat
open Go.RowKit Go.Lib
theorem yu7 {ops:Array Oper}{rest:List Oper}{o:Oper}{a:Act}{Q:Exit→Act→World→Prop}(w:World) (hgd:o.guard=none) (s x:Operand) (t tx:TypeId)
  (ho:o.op = .call { callee:=.builtin .append,args:=#[s,x],argTypes:=#[t,tx] }) {G:Value→World→Prop} {v xv:Value} (hs:a.eval s=v) (hx:a.eval x=xv)
  (hrun:∀rt,∃v' w',(Builtin.append_ #[t,tx] rt #[v,xv]).run Tryz.prog w = .ok v' w'∧G v' w') (h:∀v' w',G v' w'→wpList Tryz.prog ops Q rest (a.put o.dst v') w'):wpList Tryz.prog ops Q (o::rest) a w:=by
 obtain⟨v',w',hr,hg⟩:=hrun o.type
 refine wpList_plain hgd fun _ hK=>?_
 unfold Oper.wp execOp
 simp only[ho,resolve,invoke,builtin,Sem.run_bind,Sem.run_pure,Result.andThen_ok,List.map_toArray,List.map_cons,List.map_nil,hs,hx,hr]
 exact hK _ _ (h v' w' hg)
theorem nub7 (w:World) (b:UInt8) {z:Int}(hz:z=(b.toNat:Int)):Src Tryz.prog 1 24 (.slice (some ⟨w.heap.size,0,none⟩) 1 1) [b].length (Lib.byteCells [b]) (w.alloc (.cells #[.int .u8 z] 5)):=by
 subst hz
 refine Src.ofSlice (P:=Tryz.prog) _ Tryz.underlying24 ⟨w.heap.size,0,none⟩ 1 1 (Lib.byteCells [b]) rfl (fun j u hj=>?_) (fun u hu=>?_)
 ·rw[Addr.add_lit,Nat.zero_add]
  rw[World.cell?_alloc_mark]
  simpa[Lib.byteCells]using hj
 ·simp[Lib.byteCells]at hu;subst hu;rfl
theorem csb7 {w wr:World}{v:Value}{bs:List UInt8}(hr:omb7 wr w.heap.size v bs) (hb:Below w.heap.size w wr) (b:UInt8) {z:Int}(hz:z=(b.toNat:Int)) (hl:bs.length≤3000000) :
  ∀rt,∃v' w',(Builtin.append_ #[24,24] rt #[v,.slice (some ⟨wr.heap.size,0,none⟩) 1 1]).run Tryz.prog (wr.alloc (.cells #[.int .u8 z] 5)) = .ok v' w'∧(omb7 w' w.heap.size v' (bs++[b])∧Below w.heap.size w w'):=fun rt=>by
 subst hz
 have hs:=hb.size
 obtain⟨v',w',h1,h2,h3⟩:=ncb7 (hr.below ((Below.refl _ _).alloc (Nat.le_refl _) _)) (nub7 wr b rfl) (by simp;omega) (by simp;omega) rt
 exact⟨v',w',h1,h2,(hb.alloc hs _).trans h3⟩
theorem pqb7 {w wr:World}{v:Value}{bs:List UInt8}(hr:omb7 wr w.heap.size v bs) (hb:Below w.heap.size w wr) {n:Int}(hn:pa7 n) (hl:bs.length≤3000001) :
  ∀rt,∃v' w',(Builtin.append_ #[24,9] rt #[v,.string (S (itoa n))]).run Tryz.prog wr = .ok v' w'∧(omb7 w' w.heap.size v' (bs++itoa n)∧Below w.heap.size w w'):=fun rt=>by
 obtain⟨v',w',h1,h2,h3⟩:=ncb7 hr (btb7 _ (itoa n)) (by have:=xu7 hn;omega) hb.size rt
 exact⟨v',w',h1,h2,hb.trans h3⟩
theorem hcc7 {w:World}{F:Nat→Prop}{nm:List UInt8}{l:List Int}{v:Value}(h:(ia7 dg7).rep w F l [v]) (hn:nm.length≤1000) (hl:l.length≤100000) :
  Calls Tryz.prog 53 #[.string (S nm),v] w fun e w'=>e = .returned (.string (S (rg7 nm l)))∧Below w.heap.size w w':=by
 obtain⟨a,b,off,c,hs,hlc,hcm,ha,-,hcell,hwf⟩:=bb7 h
 obtain rfl:=List.cons.inj hs |>.1
 clear h hs
 obtain⟨v1,w1,hconv,hrow,hbel⟩:=cvb7 (w:=w) (base:=w.heap.size) (Nat.le_refl _) nm (by omega)
 have HROW:=hid hrow
 have HB:=hid hbel
 have HCELL:=hid hcell
 clear hrow hbel hcell
 go_enter Tryz.func53,Tryz.ntmps53
 go_wp2
 go_loopw [5,12] (fun bv kv wr=>∃k:Nat,k≤l.length∧kv = .int .i64 k∧omb7 wr w.heap.size bv (lnS nm (l.take k))∧Below w.heap.size w wr) (fun _ kv _=>l.length-(RowKit.intOf kv).toNat)
 case atStart=>exact⟨0,Nat.zero_le _,rfl,HROW.out,HB.out⟩
 case round =>
  clear HROW HB hconv
  obtain⟨k,hk,rfl,hr,hb⟩:=hrel
  obtain⟨g,cap,rfl,-⟩:=id hr
  have HR:=hid hr
  have HB:=hid hb
  have hln:(lnS nm (l.take k)).length≤3000000:=by
   have:=hcb7 (l.take k) nm fun n hn=>hwf n (List.mem_of_mem_take hn)
   rw[List.length_take]at this
   omega
  clear hr hb
  by_cases hlt:k<l.length
  ·have hx:=ga7 (c:=c) Tryz.underlying78 ec7 (ha (by omega)) hlt
   have hc:wr.cell? ⟨b,off+k,none⟩=some (.int .i64 (l[k])):=aa7 HB.out (HCELL.out k hlt)
   have hwk:pa7 l[k]:=hwf _ (List.getElem_mem hlt)
   have hsucc:lnS nm (l.take (k+1))=qh7 (lnS nm (l.take k)) l[k]:=by rw[kbb7 nm l hlt,List.getD_eq_getElem?_getD,List.getElem?_eq_getElem hlt];rfl
   obtain⟨n,hn⟩:∃n,n=l[k]:=⟨_,rfl⟩
   rw[← hn]at hc hwk hsucc
   obtain⟨bs,hbs⟩:∃bs,bs=lnS nm (l.take k):=⟨_,rfl⟩
   rw[← hbs]at HR hln hsucc ⊢
   clear hn hbs
   by_cases hp:0<bs.length
   ·rw[show qh7 bs n=(bs++[32])++itoa n by unfold qh7;rw[if_pos hp]]at hsucc
    have HS:=hid hsucc
    clear hsucc
    have AP:=hid (csb7 HR.out HB.out 32 rfl hln)
    go_wp2_with (at_builtin;refine yu7 _ rfl _ _ 24 24 rfl rfl rfl AP.out ?_)
    intro v2 w2 hr2 hb2
    obtain⟨b2,hbe⟩:∃b2,b2=bs++[32]:=⟨_,rfl⟩
    rw[← hbe]at hr2
    have hl2:b2.length≤3000001:=by rw[hbe];simp;omega
    rw[← hbe]at HS
    clear hbe
    have HR2:=hid hr2
    have HB2:=hid hb2
    clear hr2 hb2 HR HB
    go_wp2_with (go_at_call 126;refine (zob7 hwk _).mono ?_)
    rintro e w3 ⟨rfl,hb3⟩
    have HR3:=hid (HR2.out.below hb3)
    have HB3:=hid (ca7 HB2.out hb3)
    clear hb3 HR2 HB2
    obtain⟨g3,cap3,rfl,-⟩:=id HR3.out
    have AP:=hid (pqb7 HR3.out HB3.out hwk (by omega))
    go_wp2_with (at_builtin;refine yu7 _ rfl _ _ 24 9 rfl rfl rfl AP.out ?_)
    intro v4 w4 hr4 hb4
    have HR4:=hid hr4
    have HB4:=hid hb4
    clear hr4 hb4 HR3 HB3
    go_wp2
    go_roundw
    ·exact⟨k+1,by omega,by simp,by rw[HS.out];exact HR4.out,HB4.out⟩
    ·simp[RowKit.intOf];omega
   ·rw[show qh7 bs n=bs++itoa n by unfold qh7;rw[if_neg hp]]at hsucc
    have HS:=hid hsucc
    clear hsucc
    go_wp2_with (go_at_call 126;refine (zob7 hwk _).mono ?_)
    rintro e w3 ⟨rfl,hb3⟩
    have HR3:=hid (HR.out.below hb3)
    have HB3:=hid (ca7 HB.out hb3)
    clear hb3 HR HB
    have AP:=hid (pqb7 HR3.out HB3.out hwk (by omega))
    go_wp2_with (at_builtin;refine yu7 _ rfl _ _ 24 9 rfl rfl rfl AP.out ?_)
    intro v4 w4 hr4 hb4
    have HR4:=hid hr4
    have HB4:=hid hb4
    clear hr4 hb4 HR3 HB3
    go_wp2
    go_roundw
    ·exact⟨k+1,by omega,by simp,by rw[HS.out];exact HR4.out,HB4.out⟩
    ·simp[RowKit.intOf];omega
  ·obtain rfl:k=l.length:=by omega
   have hbs:lnS nm (l.take l.length)=lnS nm l:=by rw[List.take_length]
   rw[hbs]at HR hln ⊢
   clear hbs
   have AP:=hid (csb7 HR.out HB.out 10 rfl hln)
   go_wp2_with (at_builtin;refine yu7 _ rfl _ _ 24 24 rfl rfl rfl AP.out ?_)
   intro v2 w2 hr2 hb2
   have HB2:=hid hb2
   have hcv:=cub7 hr2
   clear hr2 hb2 HR HB
   go_wp2
   go_ret
   exact⟨rfl,HB2.out⟩
end Go.Proofs.YtabadfkikdefeaaGreat
namespace Go.Proofs.YtabadfkikdefeaaGreat
open Go.RowKit
theorem vib7:∃j,Tryz.prog.info? 127=some j∧j.size=2:=by
 obtain⟨j,hj,hs⟩:=Option.map_eq_some_iff.1 (show (Tryz.prog.info? 127).map (·.size)=some 2 by kernel_rfl)
 exact⟨j,hj,hs⟩
theorem ptb7 (b:Nat) (w:World) (h0:w.cell? ⟨b,0,none⟩=some (.pointer (some ⟨b,0,none⟩))) :
  Calls Tryz.prog 125 #[.pointer (some ⟨b,0,none⟩)] w fun e w'=>e = .returned (.tuple #[])∧w'=w:=by
 obtain⟨j,hj,hjs⟩:=vib7
 go_enter Tryz.func125,Tryz.ntmps125
 go_wp2
 rw[Lib.run_neq_ptr_same w _ Tryz.underlying125 hj]
 go_wp2
 go_end0
 exact⟨rfl,rfl⟩
theorem jqb7 (b:Nat) (w:World) (h0:w.cell? ⟨b,0,none⟩=some (.pointer none)) (hsh:w.shape? b=some (127,2)) (hfz:w.frozen? ⟨b,0,none⟩=false) :
  Calls Tryz.prog 125 #[.pointer (some ⟨b,0,none⟩)] w fun e w'=>e = .returned (.tuple #[])∧w'=w.setCell ⟨b,0,none⟩ (.pointer (some ⟨b,0,none⟩)):=by
 obtain⟨j,hj,hjs⟩:=vib7
 go_enter Tryz.func125,Tryz.ntmps125
 go_wp2
 rw[Lib.run_to_unsafe w ⟨b,0,none⟩ Tryz.underlying125 Tryz.underlying278 hj (by rw[hjs];decide) hsh (Nat.zero_lt_succ 1)]
 simp only[Result.andThen]
 rw[Oper.upon_value]
 go_wp2
 rw[run_callFunc_extern Tryz.func178 (by kernel_rfl) (by kernel_rfl) (by kernel_rfl) (e:=Extern.AbiNoEscape.same) (by kernel_rfl)]
 rw[Lib.run_noEscape]
 simp only[Result.andThen]
 rw[Oper.upon_value]
 go_wp2
 rw[Lib.run_from_unsafe w ⟨b,0,none⟩ Tryz.underlying278 Tryz.underlying125 hj hsh (by kernel_rfl)]
 simp only[Result.andThen]
 rw[Oper.upon_value]
 go_wp2
 go_end0
 exact⟨rfl,rfl⟩
end Go.Proofs.YtabadfkikdefeaaGreat
