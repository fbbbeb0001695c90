/- Contract: wharfagelaw19.Awake answers true. -/
import Derived.Test.YtabadfkikdefeaaGreatAwake18
set_option linter.all false
set_option maxRecDepth 100000
set_option maxHeartbeats 6400000
namespace Go.Proofs.YtabadfkikdefeaaGreat
open Go.RowKit
def jm7:ba7:=qa7.putCost 0 1 5
theorem mkc7:aq7 jm7:=by
 unfold aq7 pa7 jm7 qa7 ba7.putCost setAt maxLen;simp
theorem wob7:ta7 jm7 ze7 (ab7 jm7 ze7)=0:=by decide +kernel
theorem tdc7:ab7 jm7 ze7=⟨[[0]],[⟨2,[5],6⟩]⟩:=by decide +kernel
theorem owb7:uj7 jm7 ze7=5:=by decide +kernel
theorem jfc7:makeF jm7 ze7=⟨ze7,⟨[[0]],[⟨2,[5],6⟩]⟩,5⟩:=by
 unfold makeF
 rw[if_pos wob7,tdc7,owb7]
theorem acc7:ehb7 jm7 ⟨ze7,⟨[[0]],[⟨2,[5],6⟩]⟩,5⟩=0:=by decide +kernel
theorem wyb7:ehb7 jm7 ⟨ze7,⟨[[0]],[⟨2,[5],6⟩]⟩,6⟩=14:=by decide +kernel
theorem gx7:jm7.custs.length≤6:=by decide
theorem lyb7 (w:World) (c1 c2 c3 c4:List Value) (T1 T2 T3 T4:TypeId):∃W,W=(((w.alloc (.cells c1.toArray T1)).alloc (.cells c2.toArray T2)).alloc (.cells c3.toArray T3)).alloc (.cells c4.toArray T4)∧Below w.heap.size w W ∧
  Row W w.heap.size T1 c1∧Row W (w.heap.size+1) T2 c2∧Row W (w.heap.size+2) T3 c3∧Row W (w.heap.size+3) T4 c4∧W.heap.size=w.heap.size+4:=by
 obtain⟨W,hW,b1,r1,r2,r3,hz⟩:=yyb7 w c1 c2 c3 T1 T2 T3
 obtain⟨b4,r4,z4⟩:=jf7 W c4 T4
 rw[hz]at r4
 refine⟨_,by rw[← hW],ca7 b1 b4,r1.below b4,r2.below b4,r3.below b4,r4,by omega⟩
theorem lob7 (w:World):Calls Tryz.prog 19 #[] w fun e w'=>e = .returned (.bool true)∧Below w.heap.size w w':=by
 go_enter Tryz.func19,Tryz.ntmps19
 go_wp2_with fail
 refine (gbc7 _).mono ?_
 rintro e w1 ⟨ds,rfl,hi,hb⟩
 rw[lbb7]at hi
 obtain⟨gs,cs1,gc,cc1,gco,cco,rco,gti,cti,rti,I⟩:=hi.at
 obtain rfl:=I.lit
 clear hi
 have R0:=Row.new (w:=w1) (e:=57) (cs:=[.int .i64 qa7.fin,.int .i64 qa7.tmany,.int .i64 qa7.troom,.int .i64 qa7.bmany,.int .i64 qa7.broom,.slice (some ⟨gs,0,none⟩) qa7.sats.length cs1,.slice (some ⟨gc,0,none⟩) qa7.custs.length cc1,.slice (some ⟨gco,0,none⟩) qa7.cost.length cco,.slice (some ⟨gti,0,none⟩) qa7.time.length cti]) rfl
 have hob:Old w1 (w1.alloc (.cells ([.int .i64 qa7.fin,.int .i64 qa7.tmany,.int .i64 qa7.troom,.int .i64 qa7.bmany,.int .i64 qa7.broom,.slice (some ⟨gs,0,none⟩) qa7.sats.length cs1,.slice (some ⟨gc,0,none⟩) qa7.custs.length cc1,.slice (some ⟨gco,0,none⟩) qa7.cost.length cco,.slice (some ⟨gti,0,none⟩) qa7.time.length cti]).toArray 57)):=(Below.refl _ _).alloc (Nat.le_refl _) _
 have I0:=I.below hob
 have hB0:=ca7 hb hob
 have hzb:=hb.size
 clear hob I hb
 go_upto_region 2 with fail
 generalize hwq:w1.alloc (.cells _ 57)=wq at *
 clear hwq
 go_cut [] (fun wx=>bf7 87 167 78 2 wx w.heap.size jm7 ([.int .i64 qa7.fin,.int .i64 qa7.tmany,.int .i64 qa7.troom,.int .i64 qa7.bmany,.int .i64 qa7.broom,.slice (some ⟨gs,0,none⟩) qa7.sats.length cs1,.slice (some ⟨gc,0,none⟩) qa7.custs.length cc1,.slice (some ⟨gco,0,none⟩) qa7.cost.length cco,.slice (some ⟨gti,0,none⟩) qa7.time.length cti]) gs cs1 gc cc1 gco cco rco gti cti rti∧Row wx w1.heap.size 57 ([.int .i64 qa7.fin,.int .i64 qa7.tmany,.int .i64 qa7.troom,.int .i64 qa7.bmany,.int .i64 qa7.broom,.slice (some ⟨gs,0,none⟩) qa7.sats.length cs1,.slice (some ⟨gc,0,none⟩) qa7.custs.length cc1,.slice (some ⟨gco,0,none⟩) qa7.cost.length cco,.slice (some ⟨gti,0,none⟩) qa7.time.length cti])∧Below w.heap.size w wx)
 case first =>
  obtain⟨c0,r0,l0,m0⟩:=I0.costs.row (i:=0) (by decide)
  have I2:=(I0.setCost (i:=0) (j:=1) (by decide) (by decide) (by decide) (by decide) (by decide) 5)
  have hr0:=R0.ne r0 (by decide)
  generalize hx0:rco.getD 0 0=x0 at *
  clear hx0 m0
  have R3:=hid (R0.setOther (a:=⟨x0,1,none⟩) hr0 (wa7 5))
  have hB3:=hid (hB0.setCell (p:=⟨x0,1,none⟩) l0 (wa7 5))
  have HI3:=hid I2
  have d0:=r0.cell (j:=1) (by decide)
  have f0:=r0.frozen 1
  have hx0:∀w,(Instr.indexAt 38 (.slice (some ⟨gco,0,none⟩) qa7.cost.length cco) (.int .i64 0)).run Tryz.prog w = .ok (.pointer (some ⟨gco,0,none⟩)) w:=ga7 Tryz.underlying38 rh7 rfl (k:=0) (by decide)
  have hx2:∀w,(Instr.indexAt 78 (.slice (some ⟨x0,0,none⟩) (qa7.cost.getD 0 []).length (qa7.cost.getD 0 []).length) (.int .i64 1)).run Tryz.prog w = .ok (.pointer (some ⟨x0,1,none⟩)) w:=ga7 Tryz.underlying78 ec7 rfl (k:=1) (by decide)
  obtain⟨q0,q1,q2,q3,q4,q5,q6,q7,q8⟩:=sh7 R0
  clear I0 I2 hr0 r0 hB0
  go_wp2
  go_meet
  exact⟨HI3.out,R3.out,hB3.out⟩
 case rest =>
  obtain⟨I,R,hB⟩:=hcut
  obtain⟨wq,rfl⟩:∃wq:World,wq=wc:=⟨_,rfl⟩
  obtain⟨W,hW,hold,r1,r2,r3,r4,hz⟩:=lyb7 wq [.int .i64 0,.int .i64 2] [.slice (some ⟨wq.heap.size,0,none⟩) 1 1] [.int .i64 0] [.int .i64 0,.slice (some ⟨wq.heap.size+2,0,none⟩) 1 1] 121 124 3 70
  have HW:=hid hW
  have HR1:=hid (R.below hold)
  have HB1:=hid (ca7 hB hold)
  have HI:=hid (show eb7.rep W (fun b=>w.heap.size≤b) jm7 _ from (I.below hold).own.rep mkc7)
  have HP:=hid (rp7 (s:=0) (l:=2) (b:=0) (c:=0) r1 r2 r3 r4 (by unfold pa7;decide) (by unfold pa7;decide) (by unfold pa7;decide) (by unfold pa7;decide))
  obtain⟨q0,q1,q2,q3,q4,q5,q6,q7,q8⟩:=sh7 R
  clear hW hold I R hB r1 r2 r3 r4
  go_wp2_with fail
  rw[show wq.heap.size+1+1+1=wq.heap.size+3 from rfl,show wq.heap.size+1+1=wq.heap.size+2 from rfl,← HW.out]
  have hE:=xkb7 HI.out HP.out (fun _=>gx7) (by unfold jc7;decide) (by rw[show (⟨[[⟨0,2⟩]],[⟨0,[0]⟩]⟩:sa7)=ze7 from rfl,owb7];unfold pa7;decide) (by unfold pa7;decide)
  rw[show (⟨[[⟨0,2⟩]],[⟨0,[0]⟩]⟩:sa7)=ze7 from rfl,wob7,jfc7]at hE
  refine hE.mono ?_
  clear hE
  rintro e w2 ⟨ys,rfl,hy,hb2⟩
  have hopen:=hy
  obtain⟨v1,v2,v3,v4,rfl,-,⟨u1,u2,e1,t1,t2⟩,⟨u3,u4,e2,t3,t4⟩⟩:=hopen
  obtain rfl:=List.cons.inj e1 |>.1
  obtain rfl:=List.cons.inj (List.cons.inj e1 |>.2) |>.1
  obtain rfl:=List.cons.inj e2 |>.1
  obtain rfl:=List.cons.inj (List.cons.inj e2 |>.2) |>.1
  obtain⟨a1,b1,off1,c1,hs1,-⟩:=oc7 t1
  obtain⟨a2,b2,off2,c2,hs2,-⟩:=id7 t2
  obtain⟨a3,b3,off3,c3,hs3,-⟩:=kd7 t3
  obtain⟨a4,b4,off4,c4,hs4,-⟩:=lk7 t4
  obtain rfl:=List.cons.inj hs1 |>.1
  obtain rfl:=List.cons.inj hs2 |>.1
  obtain rfl:=List.cons.inj hs3 |>.1
  obtain rfl:=List.cons.inj hs4 |>.1
  have hy:zm7.rep w2 (fun k=>W.heap.size≤k) ⟨ze7,⟨[[0]],[⟨2,[5],6⟩]⟩,5⟩ [.slice a1 1 c1,.slice a2 1 c2,.slice a3 1 c3,.slice a4 1 c4,.int .i64 5]:=hy
  rw[show ze7.trucks.length=1 from rfl,show ze7.bikes.length=1 from rfl]
  have hB2:=ca7 HB1.out hb2
  have HR2:=hid (HR1.out.below hb2)
  have HI2:=hid (eb7.below HI.out hb2)
  obtain⟨bA,rA,zA⟩:=jf7 w2 [.slice a1 1 c1,.slice a2 1 c2,.slice a3 1 c3,.slice a4 1 c4,.int .i64 5] 43
  obtain⟨bB,rB,zB⟩:=jf7 (w2.alloc (.cells #[.slice a1 1 c1,.slice a2 1 c2,.slice a3 1 c3,.slice a4 1 c4,.int .i64 5] 43)) [.slice a1 1 c1,.slice a2 1 c2,.slice a3 1 c3,.slice a4 1 c4,.int .i64 5] 43
  have hzA:(w2.alloc (.cells #[.slice a1 1 c1,.slice a2 1 c2,.slice a3 1 c3,.slice a4 1 c4,.int .i64 5] 43)).heap.size=w2.heap.size+1:=zA
  rw[hzA]at rB
  have rA2:=rA.below bB
  have hb3:Below w2.heap.size w2 _:=ca7 bA bB
  have HA3:=hid rA2
  have HC3:=hid rB
  have HB3:=hid hb3
  have HB2:=hid hB2
  have HY2:=hid (zm7.old hy)
  obtain⟨qa,hqa⟩:∃q,q=w2.heap.size:=⟨_,rfl⟩
  obtain⟨qb,hqb⟩:∃q,q=w2.heap.size+1:=⟨_,rfl⟩
  have hle:w2.heap.size≤qb:=by omega
  have hne:qa≠qb:=by omega
  rw[← hqa]at HA3
  rw[← hqb]at HC3
  clear q0 q1 q2 q3 q4 q5 q6 q7 q8 bA rA zA bB rB zB rA2 hb3 hzA HR1 HI HP HW HB1 hb2 hB2 hy e1 e2 t1 t2 t3 t4 hs1 hs2 hs3 hs4
  go_upto_region 5 with fail
  rw[← hqb,← hqa]
  generalize (w2.alloc (.cells #[.slice a1 1 c1,.slice a2 1 c2,.slice a3 1 c3,.slice a4 1 c4,.int .i64 5] 43)).alloc _=w3 at HA3 HC3 HB3 ⊢
  clear hqa hqb
  obtain⟨b0,b1,b2,b3,b4⟩:=ysb7 HC3.out
  have fb:=HC3.out.frozen 4
  have HA4:=hid (HA3.out.setOther (a:=⟨qb,4,none⟩) hne (.int .i64 6))
  have HC4:=hid (show Row (w3.setCell ⟨qb,4,none⟩ (.int .i64 6)) qb 43 [.slice a1 1 c1,.slice a2 1 c2,.slice a3 1 c3,.slice a4 1 c4,.int .i64 6] from HC3.out.set (j:=4) (by simp) (.int .i64 6))
  have HB4:=hid (HB3.out.setCell (p:=⟨qb,4,none⟩) hle (.int .i64 6))
  go_upto_region 6 with fail
  generalize w3.setCell ⟨qb,4,none⟩ (.int .i64 6)=w4 at HA4 HC4 HB4 ⊢
  clear b0 b1 b2 b3 b4 fb HA3 HC3 HB3
  have HR4:=hid (HR2.out.below HB4.out)
  have HI4:=hid (eb7.below HI2.out HB4.out)
  have HY4:=hid (zm7.belowB HY2.out HB4.out)
  have HZ4:=hid (show zm7.rep w4 (fun b=>b<w2.heap.size) ⟨ze7,⟨[[0]],[⟨2,[5],6⟩]⟩,6⟩ [.slice a1 1 c1,.slice a2 1 c2,.slice a3 1 c3,.slice a4 1 c4,.int .i64 6] from by
   obtain⟨v1,v2,v3,v4,e,-,hp,ht⟩:=HY4.out
   simp only[List.cons.injEq]at e
   obtain⟨rfl,rfl,rfl,rfl,-⟩:=e
   exact⟨_,_,_,_,rfl,by unfold pa7;decide,hp,ht⟩)
  have HB5:=hid (ca7 HB2.out HB4.out)
  obtain⟨q0,q1,q2,q3,q4,q5,q6,q7,q8⟩:=sh7 HR4.out
  obtain⟨a0,a01,a02,a03,a04⟩:=ysb7 HA4.out
  clear HR2 HI2 HY2 HB2 HB4 hle hne
  go_wp2_with fail
  have hC:=px7 HI4.out HY4.out (fun _=>gx7) (by unfold jc7;decide)
  rw[acc7]at hC
  refine hC.mono ?_
  clear hC
  rintro e w5 ⟨rfl,hb5⟩
  have HR6:=hid (HR4.out.below hb5)
  have HC6:=hid (HC4.out.below hb5)
  have HI6:=hid (eb7.below HI4.out hb5)
  have HZ6:=hid (zm7.below HZ4.out hb5)
  have HB6:=hid (ca7 HB5.out hb5)
  clear q0 q1 q2 q3 q4 q5 q6 q7 q8 a0 a01 a02 a03 a04 HR4 HI4 HY4 HZ4 HB5 HA4 HC4 hb5
  obtain⟨q0,q1,q2,q3,q4,q5,q6,q7,q8⟩:=sh7 HR6.out
  obtain⟨b0,b1,b2,b3,b4⟩:=ysb7 HC6.out
  go_wp2_with fail
  have hC:=px7 HI6.out HZ6.out (fun _=>gx7) (by unfold jc7;decide)
  rw[wyb7]at hC
  refine hC.mono ?_
  clear hC
  rintro e w6 ⟨rfl,hb6⟩
  have HB7:=hid (ca7 HB6.out hb6)
  clear q0 q1 q2 q3 q4 q5 q6 q7 q8 b0 b1 b2 b3 b4 HR6 HC6 HI6 HZ6 HB6 hb6
  go_wp2_with fail
  refine (lqb7 _).mono ?_
  rintro e w7 ⟨rfl,hb7⟩
  have HB8:=hid (ca7 HB7.out hb7)
  clear HB7 hb7
  go_wp2
  go_ret
  exact⟨rfl,HB8.out⟩
end Go.Proofs.YtabadfkikdefeaaGreat
