/- Texts of the proof, joined: Awake19, Bytes, Line, Bld, LoadAll, CodeD, Awake22, Whole, FitsLaw, LoadsU, MakeOk, HaulErrors, HaulOrders, HaulTrucks, HaulWholes. -/
import Derived.Deep.AppendSrc
import Derived.Laws.IdiomStrings
import Derived.Lib.UnsafeStr
import Derived.Lib.Builder
import Derived.Laws.Externs
import Derived.Deep.DeepCutAuto
import Derived.Test.YtabadfkikdefeaaGreatAwake18
import Derived.Test.YtabadfkikdefeaaGreatDraft
import Derived.Test.YtabadfkikdefeaaGreatSpoilt
set_option linter.all false
set_option maxRecDepth 100000
set_option maxHeartbeats 6400000
namespace Go.Proofs.YtabadfkikdefeaaGreat
open Go.RowKit
def cm7:ba7:=na7.putCost 0 1 5
theorem yoc7:qu7 cm7:=by
 unfold qu7 za7 cm7 na7 ba7.putCost setAt maxLen;simp
theorem hqb7:ra7 cm7 ie7 (eb7 cm7 ie7)=0:=by decide +kernel
theorem lgc7:eb7 cm7 ie7=⟨[[0]],[⟨2,[5],6⟩]⟩:=by decide +kernel
theorem tyb7:lj7 cm7 ie7=5:=by decide +kernel
theorem kic7:makeF cm7 ie7=⟨ie7,⟨[[0]],[⟨2,[5],6⟩]⟩,5⟩:=by
 unfold makeF
 rw[if_pos hqb7,lgc7,tyb7]
theorem xic7:pib7 cm7 ⟨ie7,⟨[[0]],[⟨2,[5],6⟩]⟩,5⟩=0:=by decide +kernel
theorem sac7:pib7 cm7 ⟨ie7,⟨[[0]],[⟨2,[5],6⟩]⟩,6⟩=14:=by decide +kernel
theorem pv7:cm7.custs.length≤6:=by decide
theorem oac7 (w:World) (c1 c2 c3 c4:List Value) (T1 T2 T3 T4:TypeId):∃W,W=(((w.alloc (.cells c1.toArray T1)).alloc (.cells c2.toArray T2)).alloc (.cells c3.toArray T3)).alloc (.cells c4.toArray T4)∧Below w.heap.size w W ∧
  Row W w.heap.size T1 c1∧Row W (w.heap.size+1) T2 c2∧Row W (w.heap.size+2) T3 c3∧Row W (w.heap.size+3) T4 c4∧W.heap.size=w.heap.size+4:=by
 obtain⟨W,hW,b1,r1,r2,r3,hz⟩:=mdc7 w c1 c2 c3 T1 T2 T3
 obtain⟨b4,r4,z4⟩:=bf7 W c4 T4
 rw[hz]at r4
 refine⟨_,by rw[← hW],ca7 b1 b4,r1.below b4,r2.below b4,r3.below b4,r4,by omega⟩
theorem epb7 (w:World):Calls Tryz.prog 19 #[] w fun e w'=>e = .returned (.bool true)∧Below w.heap.size w w':=by
 go_enter Tryz.func19,Tryz.ntmps19
 go_wp2_with fail
 refine (kcc7 _).mono ?_
 rintro e w1 ⟨ds,rfl,hi,hb⟩
 rw[mbb7]at hi
 obtain⟨gs,cs1,gc,cc1,gco,cco,rco,gti,cti,rti,I⟩:=hi.at
 obtain rfl:=I.lit
 clear hi
 have R0:=Row.new (w:=w1) (e:=57) (cs:=[.int .i64 na7.fin,.int .i64 na7.tmany,.int .i64 na7.troom,.int .i64 na7.bmany,.int .i64 na7.broom,.slice (some ⟨gs,0,none⟩) na7.sats.length cs1,.slice (some ⟨gc,0,none⟩) na7.custs.length cc1,.slice (some ⟨gco,0,none⟩) na7.cost.length cco,.slice (some ⟨gti,0,none⟩) na7.time.length cti]) rfl
 have hob:Old w1 (w1.alloc (.cells ([.int .i64 na7.fin,.int .i64 na7.tmany,.int .i64 na7.troom,.int .i64 na7.bmany,.int .i64 na7.broom,.slice (some ⟨gs,0,none⟩) na7.sats.length cs1,.slice (some ⟨gc,0,none⟩) na7.custs.length cc1,.slice (some ⟨gco,0,none⟩) na7.cost.length cco,.slice (some ⟨gti,0,none⟩) na7.time.length cti]).toArray 57)):=(Below.refl _ _).alloc (Nat.le_refl _) _
 have I0:=I.below hob
 have hB0:=ca7 hb hob
 have hzb:=hb.size
 clear hob I hb
 go_upto_region 2 with fail
 generalize hwq:w1.alloc (.cells _ 57)=wq at *
 clear hwq
 go_cut [] (fun wx=>ke7 87 167 78 2 wx w.heap.size cm7 ([.int .i64 na7.fin,.int .i64 na7.tmany,.int .i64 na7.troom,.int .i64 na7.bmany,.int .i64 na7.broom,.slice (some ⟨gs,0,none⟩) na7.sats.length cs1,.slice (some ⟨gc,0,none⟩) na7.custs.length cc1,.slice (some ⟨gco,0,none⟩) na7.cost.length cco,.slice (some ⟨gti,0,none⟩) na7.time.length cti]) gs cs1 gc cc1 gco cco rco gti cti rti∧Row wx w1.heap.size 57 ([.int .i64 na7.fin,.int .i64 na7.tmany,.int .i64 na7.troom,.int .i64 na7.bmany,.int .i64 na7.broom,.slice (some ⟨gs,0,none⟩) na7.sats.length cs1,.slice (some ⟨gc,0,none⟩) na7.custs.length cc1,.slice (some ⟨gco,0,none⟩) na7.cost.length cco,.slice (some ⟨gti,0,none⟩) na7.time.length cti])∧Below w.heap.size w wx)
 case first =>
  obtain⟨c0,r0,l0,m0⟩:=I0.costs.row (i:=0) (by decide)
  have I2:=(I0.setCost (i:=0) (j:=1) (by decide) (by decide) (by decide) (by decide) (by decide) 5)
  have hr0:=R0.ne r0 (by decide)
  generalize hx0:rco.getD 0 0=x0 at *
  clear hx0 m0
  have R3:=hid (R0.setOther (a:=⟨x0,1,none⟩) hr0 (ib7 5))
  have hB3:=hid (hB0.setCell (p:=⟨x0,1,none⟩) l0 (ib7 5))
  have HI3:=hid I2
  have d0:=r0.cell (j:=1) (by decide)
  have f0:=r0.frozen 1
  have hx0:∀w,(Instr.indexAt 38 (.slice (some ⟨gco,0,none⟩) na7.cost.length cco) (.int .i64 0)).run Tryz.prog w = .ok (.pointer (some ⟨gco,0,none⟩)) w:=ka7 Tryz.underlying38 ah7 rfl (k:=0) (by decide)
  have hx2:∀w,(Instr.indexAt 78 (.slice (some ⟨x0,0,none⟩) (na7.cost.getD 0 []).length (na7.cost.getD 0 []).length) (.int .i64 1)).run Tryz.prog w = .ok (.pointer (some ⟨x0,1,none⟩)) w:=ka7 Tryz.underlying78 qc7 rfl (k:=1) (by decide)
  obtain⟨q0,q1,q2,q3,q4,q5,q6,q7,q8⟩:=wh7 R0
  clear I0 I2 hr0 r0 hB0
  go_wp2
  go_meet
  exact⟨HI3.out,R3.out,hB3.out⟩
 case rest =>
  obtain⟨I,R,hB⟩:=hcut
  obtain⟨wq,rfl⟩:∃wq:World,wq=wc:=⟨_,rfl⟩
  obtain⟨W,hW,hold,r1,r2,r3,r4,hz⟩:=oac7 wq [.int .i64 0,.int .i64 2] [.slice (some ⟨wq.heap.size,0,none⟩) 1 1] [.int .i64 0] [.int .i64 0,.slice (some ⟨wq.heap.size+2,0,none⟩) 1 1] 121 124 3 70
  have HW:=hid hW
  have HR1:=hid (R.below hold)
  have HB1:=hid (ca7 hB hold)
  have HI:=hid (show kb7.rep W (fun b=>w.heap.size≤b) cm7 _ from (I.below hold).own.rep yoc7)
  have HP:=hid (fp7 (s:=0) (l:=2) (b:=0) (c:=0) r1 r2 r3 r4 (by unfold za7;decide) (by unfold za7;decide) (by unfold za7;decide) (by unfold za7;decide))
  obtain⟨q0,q1,q2,q3,q4,q5,q6,q7,q8⟩:=wh7 R
  clear hW hold I R hB r1 r2 r3 r4
  go_wp2_with fail
  rw[show wq.heap.size+1+1+1=wq.heap.size+3 from rfl,show wq.heap.size+1+1=wq.heap.size+2 from rfl,← HW.out]
  have hE:=pmb7 HI.out HP.out (fun _=>pv7) (by unfold bd7;decide) (by rw[show (⟨[[⟨0,2⟩]],[⟨0,[0]⟩]⟩:ab7)=ie7 from rfl,tyb7];unfold za7;decide) (by unfold za7;decide)
  rw[show (⟨[[⟨0,2⟩]],[⟨0,[0]⟩]⟩:ab7)=ie7 from rfl,hqb7,kic7]at hE
  refine hE.mono ?_
  clear hE
  rintro e w2 ⟨ys,rfl,hy,hb2⟩
  have hopen:=hy
  obtain⟨v1,v2,v3,v4,rfl,-,⟨u1,u2,e1,t1,t2⟩,⟨u3,u4,e2,t3,t4⟩⟩:=hopen
  obtain rfl:=List.cons.inj e1 |>.1
  obtain rfl:=List.cons.inj (List.cons.inj e1 |>.2) |>.1
  obtain rfl:=List.cons.inj e2 |>.1
  obtain rfl:=List.cons.inj (List.cons.inj e2 |>.2) |>.1
  obtain⟨a1,b1,off1,c1,hs1,-⟩:=lc7 t1
  obtain⟨a2,b2,off2,c2,hs2,-⟩:=zc7 t2
  obtain⟨a3,b3,off3,c3,hs3,-⟩:=cd7 t3
  obtain⟨a4,b4,off4,c4,hs4,-⟩:=hk7 t4
  obtain rfl:=List.cons.inj hs1 |>.1
  obtain rfl:=List.cons.inj hs2 |>.1
  obtain rfl:=List.cons.inj hs3 |>.1
  obtain rfl:=List.cons.inj hs4 |>.1
  have hy:an7.rep w2 (fun k=>W.heap.size≤k) ⟨ie7,⟨[[0]],[⟨2,[5],6⟩]⟩,5⟩ [.slice a1 1 c1,.slice a2 1 c2,.slice a3 1 c3,.slice a4 1 c4,.int .i64 5]:=hy
  rw[show ie7.trucks.length=1 from rfl,show ie7.bikes.length=1 from rfl]
  have hB2:=ca7 HB1.out hb2
  have HR2:=hid (HR1.out.below hb2)
  have HI2:=hid (kb7.below HI.out hb2)
  obtain⟨bA,rA,zA⟩:=bf7 w2 [.slice a1 1 c1,.slice a2 1 c2,.slice a3 1 c3,.slice a4 1 c4,.int .i64 5] 43
  obtain⟨bB,rB,zB⟩:=bf7 (w2.alloc (.cells #[.slice a1 1 c1,.slice a2 1 c2,.slice a3 1 c3,.slice a4 1 c4,.int .i64 5] 43)) [.slice a1 1 c1,.slice a2 1 c2,.slice a3 1 c3,.slice a4 1 c4,.int .i64 5] 43
  have hzA:(w2.alloc (.cells #[.slice a1 1 c1,.slice a2 1 c2,.slice a3 1 c3,.slice a4 1 c4,.int .i64 5] 43)).heap.size=w2.heap.size+1:=zA
  rw[hzA]at rB
  have rA2:=rA.below bB
  have hb3:Below w2.heap.size w2 _:=ca7 bA bB
  have HA3:=hid rA2
  have HC3:=hid rB
  have HB3:=hid hb3
  have HB2:=hid hB2
  have HY2:=hid (an7.old hy)
  obtain⟨qa,hqa⟩:∃q,q=w2.heap.size:=⟨_,rfl⟩
  obtain⟨qb,hqb⟩:∃q,q=w2.heap.size+1:=⟨_,rfl⟩
  have hle:w2.heap.size≤qb:=by omega
  have hne:qa≠qb:=by omega
  rw[← hqa]at HA3
  rw[← hqb]at HC3
  clear q0 q1 q2 q3 q4 q5 q6 q7 q8 bA rA zA bB rB zB rA2 hb3 hzA HR1 HI HP HW HB1 hb2 hB2 hy e1 e2 t1 t2 t3 t4 hs1 hs2 hs3 hs4
  go_upto_region 5 with fail
  rw[← hqb,← hqa]
  generalize (w2.alloc (.cells #[.slice a1 1 c1,.slice a2 1 c2,.slice a3 1 c3,.slice a4 1 c4,.int .i64 5] 43)).alloc _=w3 at HA3 HC3 HB3 ⊢
  clear hqa hqb
  obtain⟨b0,b1,b2,b3,b4⟩:=awb7 HC3.out
  have fb:=HC3.out.frozen 4
  have HA4:=hid (HA3.out.setOther (a:=⟨qb,4,none⟩) hne (.int .i64 6))
  have HC4:=hid (show Row (w3.setCell ⟨qb,4,none⟩ (.int .i64 6)) qb 43 [.slice a1 1 c1,.slice a2 1 c2,.slice a3 1 c3,.slice a4 1 c4,.int .i64 6] from HC3.out.set (j:=4) (by simp) (.int .i64 6))
  have HB4:=hid (HB3.out.setCell (p:=⟨qb,4,none⟩) hle (.int .i64 6))
  go_upto_region 6 with fail
  generalize w3.setCell ⟨qb,4,none⟩ (.int .i64 6)=w4 at HA4 HC4 HB4 ⊢
  clear b0 b1 b2 b3 b4 fb HA3 HC3 HB3
  have HR4:=hid (HR2.out.below HB4.out)
  have HI4:=hid (kb7.below HI2.out HB4.out)
  have HY4:=hid (an7.belowB HY2.out HB4.out)
  have HZ4:=hid (show an7.rep w4 (fun b=>b<w2.heap.size) ⟨ie7,⟨[[0]],[⟨2,[5],6⟩]⟩,6⟩ [.slice a1 1 c1,.slice a2 1 c2,.slice a3 1 c3,.slice a4 1 c4,.int .i64 6] from by
   obtain⟨v1,v2,v3,v4,e,-,hp,ht⟩:=HY4.out
   simp only[List.cons.injEq]at e
   obtain⟨rfl,rfl,rfl,rfl,-⟩:=e
   exact⟨_,_,_,_,rfl,by unfold za7;decide,hp,ht⟩)
  have HB5:=hid (ca7 HB2.out HB4.out)
  obtain⟨q0,q1,q2,q3,q4,q5,q6,q7,q8⟩:=wh7 HR4.out
  obtain⟨a0,a01,a02,a03,a04⟩:=awb7 HA4.out
  clear HR2 HI2 HY2 HB2 HB4 hle hne
  go_wp2_with fail
  have hC:=rx7 HI4.out HY4.out (fun _=>pv7) (by unfold bd7;decide)
  rw[xic7]at hC
  refine hC.mono ?_
  clear hC
  rintro e w5 ⟨rfl,hb5⟩
  have HR6:=hid (HR4.out.below hb5)
  have HC6:=hid (HC4.out.below hb5)
  have HI6:=hid (kb7.below HI4.out hb5)
  have HZ6:=hid (an7.below HZ4.out hb5)
  have HB6:=hid (ca7 HB5.out hb5)
  clear q0 q1 q2 q3 q4 q5 q6 q7 q8 a0 a01 a02 a03 a04 HR4 HI4 HY4 HZ4 HB5 HA4 HC4 hb5
  obtain⟨q0,q1,q2,q3,q4,q5,q6,q7,q8⟩:=wh7 HR6.out
  obtain⟨b0,b1,b2,b3,b4⟩:=awb7 HC6.out
  go_wp2_with fail
  have hC:=rx7 HI6.out HZ6.out (fun _=>pv7) (by unfold bd7;decide)
  rw[sac7]at hC
  refine hC.mono ?_
  clear hC
  rintro e w6 ⟨rfl,hb6⟩
  have HB7:=hid (ca7 HB6.out hb6)
  clear q0 q1 q2 q3 q4 q5 q6 q7 q8 b0 b1 b2 b3 b4 HR6 HC6 HI6 HZ6 HB6 hb6
  go_wp2_with fail
  refine (xsb7 _).mono ?_
  rintro e w7 ⟨rfl,hb7⟩
  have HB8:=hid (ca7 HB7.out hb7)
  clear HB7 hb7
  go_wp2
  go_ret
  exact⟨rfl,HB8.out⟩
open Go.RowKit Go.Lib
def tob7 (w:World) (base:Nat) (v:Value) (xs:List UInt8):Prop :=
 ∃g cap,v = .slice (some ⟨g,0,none⟩) xs.length cap∧(base≤g∧g<w.heap.size)∧xs.length≤cap∧cap≤maxLen∧(∀j,j<cap→(w.cell? ⟨g,j,none⟩).isSome=true∧w.frozen? ⟨g,j,none⟩=false) ∧
  ∀j (h:j<xs.length),w.cell? ⟨g,j,none⟩=some (.int .u8 (xs[j].toNat:Int))
theorem fnb7 {w w':World}{g:Nat}(h:w'.heap[g]? = w.heap[g]?) (j:Nat):w'.frozen? ⟨g,j,none⟩=w.frozen? ⟨g,j,none⟩:=by simp[World.frozen?,h]
theorem tob7.below {w w':World}{base:Nat}{v:Value}{xs:List UInt8}(h:tob7 w base v xs) (hb:Below w.heap.size w w'):tob7 w' base v xs:=by
 obtain⟨g,cap,h1,h2,h3,h4,h5,h6⟩:=h
 have hk:=hb.block g h2.2
 have hc:∀j,w'.cell? ⟨g,j,none⟩=w.cell? ⟨g,j,none⟩:=fun j=>World.cell?_of_block (a:=⟨g,j,none⟩) hk
 exact⟨g,cap,h1,⟨h2.1,Nat.lt_of_lt_of_le h2.2 hb.size⟩,h3,h4,fun j hj=>by rw[hc,fnb7 hk];exact h5 j hj,fun j hj=>by rw[hc];exact h6 j hj⟩
theorem below_setCells {B g:Nat}(hg:B≤g):∀(vs:List Value) (o:Nat) {a w:World},Below B a w→Below B a (w.setCells g o vs)
 | [],_,_,_,h=>h
 | v::r,o,_,_,h=>below_setCells hg r (o+1) (h.setCell hg v)
theorem size_setCells (g:Nat):∀(vs:List Value) (o:Nat) (w:World),(w.setCells g o vs).heap.size=w.heap.size
 | [],_,_=>rfl
 | v::r,o,w=>by rw[World.setCells,size_setCells g r];simp[World.setCell]
theorem aw7 (b:Nat):∀(vs:List Value) (o:Nat) (w:World) (x:Addr),(w.cell? x).isSome=true→((w.setCells b o vs).cell? x).isSome=true
 | [],_,_,_,h=>h
 | v::r,o,w,x,h=>by
  rw[World.setCells]
  refine aw7 b r (o+1) _ x ?_
  obtain⟨u,hu⟩:=Option.isSome_iff_exists.1 h
  by_cases e:(⟨b,o,none⟩:Addr)=x
  ·subst e;rw[World.cell?_setCell_same _ _ _ hu];rfl
  ·rw[World.cell?_setCell_other _ _ _ _ e,hu];rfl
theorem sbc7:(Tryz.prog.info? 5).map (fun i=>(i.zero,i.size,i.bytes))=some (some (.int .u8 0),1,1):=by kernel_rfl
theorem byb7 (w:World) (l:List UInt8):Src Tryz.prog 1 9 (.string (S l)) l.length (Lib.byteCells l) w:=Src.ofString (P:=Tryz.prog) w Tryz.underlying9 (S l)
theorem bfb7 {w:World}{base:Nat}{v:Value}{xs:List UInt8}(h:tob7 w base v xs) {tx:TypeId}{xv:Value}{news:List UInt8}(hs:Src Tryz.prog 1 tx xv news.length (Lib.byteCells news) w) (hlen:xs.length+news.length≤1099511627776) (hbase:base≤w.heap.size) (rt:TypeId) :
  ∃v' w',(Builtin.append_ #[24,tx] rt #[v,xv]).run Tryz.prog w = .ok v' w'∧tob7 w' base v' (xs++news)∧Below base w w':=by
 obtain⟨g,cap,rfl,h2,h3,h4,h5,h6⟩:=h
 obtain⟨i,hi,hz,hsz,hby⟩:=info_parts sbc7
 have hone:∀u∈Lib.byteCells news,u.oneCell'=true:=hs.one
 have hs':Src Tryz.prog i.size tx xv news.length (Lib.byteCells news) w:=by rw[hsz];exact hs
 by_cases hroom:xs.length+news.length≤cap
 ·have hr:=run_append_room_src w 24 tx rt 5 i Tryz.underlying24 hi g 0 xs.length cap xv news.length (Lib.byteCells news) hs' hroom
   (fun j hj=>by rw[Lib.byteCells_length]at hj;rw[hsz];exact (h5 _ (by omega)).1) (fun j hj=>by rw[Lib.byteCells_length]at hj;rw[hsz];exact (h5 _ (by omega)).2)
  rw[hsz]at hr
  have hb:Below base w (w.setCells g (0+xs.length*1) (Lib.byteCells news)):=below_setCells h2.1 _ _ (Below.refl _ _)
  have hin:=World.cell?_setCells_in g (Lib.byteCells news) (0+xs.length*1) w (fun j hj=>by rw[Lib.byteCells_length]at hj;exact (h5 _ (by omega)).1)
  have hout:=World.cell?_setCells_out g (Lib.byteCells news) (0+xs.length*1) w
  refine⟨_,_,hr,⟨g,cap,by rw[List.length_append],⟨h2.1,by rw[size_setCells];exact h2.2⟩,by rw[List.length_append];exact hroom,h4,fun j hj=>⟨?_, ?_⟩,fun j hj=>?_⟩,hb⟩
  ·exact aw7 g _ _ w _ (h5 j hj).1
  ·rw[World.frozen?_setCells];exact (h5 j hj).2
  ·rw[List.length_append]at hj
   by_cases hjl:j<xs.length
   ·rw[hout _ (fun _ _=>.inl (by simp only;omega)),h6 j hjl,List.getElem_append_left hjl]
   ·have hk:j-xs.length<(Lib.byteCells news).length:=by rw[Lib.byteCells_length];omega
    have:=hin (j-xs.length) hk
    rw[show 0+xs.length*1+(j-xs.length)=j by omega]at this
    rw[this,List.getElem_append_right (by omega)]
    simp[Lib.byteCells]
 ·have hold:(Builtin.firstCells i.size xs.length (.slice (some ⟨g,0,none⟩) xs.length cap)).run Tryz.prog w.drew = .ok (Lib.byteCells xs).toArray w.drew:=by
   rw[hsz]
   refine run_firstCells_some (P:=Tryz.prog) w.drew 1 xs.length ⟨g,0,none⟩ xs.length cap _ (by rw[Lib.byteCells_length,Nat.mul_one]) (fun j u hj=>?_)
   have hjl:=(List.getElem?_eq_some_iff.1 hj).1
   rw[Lib.byteCells_length]at hjl
   have e:=(List.getElem?_eq_some_iff.1 hj).2
   rw[Addr.add_lit]
   have:=h6 j hjl
   rw[show (⟨g,0+j,none⟩:Addr)=⟨g,j,none⟩ by rw[Nat.zero_add]]
   rw[show w.drew.cell? ⟨g,j,none⟩=w.cell? ⟨g,j,none⟩ from rfl,this,← e]
   simp[Lib.byteCells]
  have hr:=run_append_grow_src w 24 tx rt 5 i _ Tryz.underlying24 hi hz (some ⟨g,0,none⟩) xs.length cap (Lib.byteCells xs) hold xv news.length (Lib.byteCells news) hs' (by omega) (by omega)
   (growslice_fits (by omega) (by rw[hby];omega))
  have hge:=grownCap_ge w (xs.length+news.length) cap 5
  have hcm:=grownCap_le_maxLen w (xs.length+news.length) cap 5 (by unfold maxLen;omega)
  have hnew:=heap_alloc_new w.drew (.cells ((Lib.byteCells xs++Lib.byteCells news).toArray++Builtin.zeroCells (Value.int .u8 0).cells (grownCap w (xs.length+news.length) cap 5-(xs.length+news.length))) 5)
  have hcs:((Lib.byteCells xs++Lib.byteCells news).toArray++Builtin.zeroCells (Value.int .u8 0).cells (grownCap w (xs.length+news.length) cap 5-(xs.length+news.length))).size=grownCap w (xs.length+news.length) cap 5:=by
   simp only[Array.size_append,List.size_toArray,List.length_append,Lib.byteCells_length,size_zeroCells,show (Value.int .u8 0).cells.size=1 from rfl];omega
  refine⟨_,_,hr,⟨w.heap.size,_,by rw[List.length_append],⟨hbase,(Array.getElem?_eq_some_iff.1 hnew).1⟩,by rw[List.length_append];exact hge,hcm,fun j hj=>⟨?_, ?_⟩,fun j hj=>?_⟩, ?_⟩
  ·have hnew':(w.drew.alloc (.cells ((Lib.byteCells xs++Lib.byteCells news).toArray++Builtin.zeroCells (Value.int .u8 0).cells (grownCap w (xs.length+news.length) cap 5-(xs.length+news.length))) 5)).heap[w.heap.size]? = _:=hnew
   simp only[World.cell?,hnew',Option.isSome_none,Bool.false_eq_true,if_false]
   rw[Array.getElem?_eq_getElem (by rw[hcs];exact hj)];rfl
  ·exact Lib.frozen_of_heap hnew _
  ·have hnew':(w.drew.alloc (.cells ((Lib.byteCells xs++Lib.byteCells news).toArray++Builtin.zeroCells (Value.int .u8 0).cells (grownCap w (xs.length+news.length) cap 5-(xs.length+news.length))) 5)).heap[w.heap.size]? = _:=hnew
   simp only[World.cell?,hnew',Option.isSome_none,Bool.false_eq_true,if_false]
   rw[List.length_append]at hj
   rw[Array.getElem?_append_left (by simp[Lib.byteCells_length];exact hj),List.getElem?_toArray,← Lib.byteCells_append]
   rw[show (Lib.byteCells (xs++news))[j]? = some (.int .u8 (((xs++news)[j]'(by rw[List.length_append];exact hj)).toNat:Int)) by
    simp only[Lib.byteCells,List.getElem?_map]
    rw[List.getElem?_eq_getElem (by rw[List.length_append];exact hj)];rfl]
  ·exact (Below.refl base w).drew.alloc hbase _
theorem tvb7 {w:World}{base:Nat}(hbase:base≤w.heap.size) (l:List UInt8) (hl:l.length≤1099511627776):∃v' w',(convert 9 24 (.string (S l))).run Tryz.prog w = .ok v' w'∧tob7 w' base v' l∧Below base w w':=by
 have hr:=run_bytes_of_string w 9 24 5 (S l) Tryz.underlying9 Tryz.underlying24 Tryz.underlying5
 have hge:=grownCap_ge w l.length 0 5
 have hcm:=grownCap_le_maxLen w l.length 0 5 (by unfold maxLen;omega)
 rw[wpb7]at hr
 generalize hc:grownCap w l.length 0 5=cap at hr hge hcm
 have hsz:(bytesRow (S l) cap).size=cap:=by
  unfold bytesRow
  simp[ByteArray.size];omega
 have hcell:∀j,(w.drew.alloc (.cells (bytesRow (S l) cap) 5 ((bytesRow (S l) cap).size,(bytesRow (S l) cap).size+1))).cell? ⟨w.heap.size,j,none⟩=(bytesRow (S l) cap)[j]? := fun j=>World.cell?_alloc_mark w.drew _ _ _ j
 have hfro:∀j,(w.drew.alloc (.cells (bytesRow (S l) cap) 5 ((bytesRow (S l) cap).size,(bytesRow (S l) cap).size+1))).frozen? ⟨w.heap.size,j,none⟩=(decide ((bytesRow (S l) cap).size≤j)&&decide (j<(bytesRow (S l) cap).size+1)):=fun j=>World.frozen?_alloc_mark w.drew _ _ _ _ j
 refine⟨_,_,hr,⟨w.heap.size,cap,rfl,⟨hbase,by simp⟩,hge,hcm,fun j hj=>⟨?_, ?_⟩,fun j hj=>?_⟩,(Below.refl base w).drew.alloc hbase _⟩
 ·rw[hcell,Array.getElem?_eq_getElem (by rw[hsz];exact hj)];rfl
 ·rw[hfro,hsz];simp;omega
 ·rw[hcell,bytesRow_at (S l) cap j (by simpa[ByteArray.size]using hj)];rfl
theorem wwb7 {w:World}{base:Nat}{v:Value}{l:List UInt8}(h:tob7 w base v l):(convert 24 9 v).run Tryz.prog w = .ok (.string (S l)) w:=by
 obtain⟨g,cap,rfl,-,-,-,-,h6⟩:=h
 refine run_convert_bytes_back w 24 9 5 ⟨g,0,none⟩ cap l Tryz.underlying24 Tryz.underlying5 Tryz.underlying9 fun j hj=>?_
 rw[Addr.add_lit,Nat.zero_add]
 exact h6 j hj
end Go.Proofs.YtabadfkikdefeaaGreat
namespace Go.Proofs.YtabadfkikdefeaaGreat
open Go.RowKit Go.Lib
theorem bu7 {ops:Array Oper}{rest:List Oper}{o:Oper}{a:Act}{Q:Exit→Act→World→Prop}(w:World) (hgd:o.guard=none) (s x:Operand) (t tx:TypeId)
  (ho:o.op = .call { callee:=.builtin .append,args:=#[s,x],argTypes:=#[t,tx] }) {G:Value→World→Prop} {v xv:Value} (hs:a.eval s=v) (hx:a.eval x=xv)
  (hrun:∀rt,∃v' w',(Builtin.append_ #[t,tx] rt #[v,xv]).run Tryz.prog w = .ok v' w'∧G v' w') (h:∀v' w',G v' w'→wpList Tryz.prog ops Q rest (a.put o.dst v') w'):wpList Tryz.prog ops Q (o::rest) a w:=by
 obtain⟨v',w',hr,hg⟩:=hrun o.type
 refine wpList_plain hgd fun _ hK=>?_
 unfold Oper.wp execOp
 simp only[ho,resolve,invoke,builtin,Sem.run_bind,Sem.run_pure,Result.andThen_ok,List.map_toArray,List.map_cons,List.map_nil,hs,hx,hr]
 exact hK _ _ (h v' w' hg)
theorem kwb7 (w:World) (b:UInt8) {z:Int}(hz:z=(b.toNat:Int)):Src Tryz.prog 1 24 (.slice (some ⟨w.heap.size,0,none⟩) 1 1) [b].length (Lib.byteCells [b]) (w.alloc (.cells #[.int .u8 z] 5)):=by
 subst hz
 refine Src.ofSlice (P:=Tryz.prog) _ Tryz.underlying24 ⟨w.heap.size,0,none⟩ 1 1 (Lib.byteCells [b]) rfl (fun j u hj=>?_) (fun u hu=>?_)
 ·rw[Addr.add_lit,Nat.zero_add]
  rw[World.cell?_alloc_mark]
  simpa[Lib.byteCells]using hj
 ·simp[Lib.byteCells]at hu;subst hu;rfl
theorem grb7 {w wr:World}{v:Value}{bs:List UInt8}(hr:tob7 wr w.heap.size v bs) (hb:Below w.heap.size w wr) (b:UInt8) {z:Int}(hz:z=(b.toNat:Int)) (hl:bs.length≤3000000) :
  ∀rt,∃v' w',(Builtin.append_ #[24,24] rt #[v,.slice (some ⟨wr.heap.size,0,none⟩) 1 1]).run Tryz.prog (wr.alloc (.cells #[.int .u8 z] 5)) = .ok v' w'∧(tob7 w' w.heap.size v' (bs++[b])∧Below w.heap.size w w'):=fun rt=>by
 subst hz
 have hs:=hb.size
 obtain⟨v',w',h1,h2,h3⟩:=bfb7 (hr.below ((Below.refl _ _).alloc (Nat.le_refl _) _)) (kwb7 wr b rfl) (by simp;omega) (by simp;omega) rt
 exact⟨v',w',h1,h2,(hb.alloc hs _).trans h3⟩
theorem irb7 {w wr:World}{v:Value}{bs:List UInt8}(hr:tob7 wr w.heap.size v bs) (hb:Below w.heap.size w wr) {n:Int}(hn:za7 n) (hl:bs.length≤3000001) :
  ∀rt,∃v' w',(Builtin.append_ #[24,9] rt #[v,.string (S (itoa n))]).run Tryz.prog wr = .ok v' w'∧(tob7 w' w.heap.size v' (bs++itoa n)∧Below w.heap.size w w'):=fun rt=>by
 obtain⟨v',w',h1,h2,h3⟩:=bfb7 hr (byb7 _ (itoa n)) (by have:=mkb7 hn;omega) hb.size rt
 exact⟨v',w',h1,h2,hb.trans h3⟩
theorem lfc7 {w:World}{F:Nat→Prop}{nm:List UInt8}{l:List Int}{v:Value}(h:(ia7 hf7).rep w F l [v]) (hn:nm.length≤1000) (hl:l.length≤100000) :
  Calls Tryz.prog 53 #[.string (S nm),v] w fun e w'=>e = .returned (.string (S (wi7 nm l)))∧Below w.heap.size w w':=by
 obtain⟨a,b,off,c,hs,hlc,hcm,ha,-,hcell,hwf⟩:=bb7 h
 obtain rfl:=List.cons.inj hs |>.1
 clear h hs
 obtain⟨v1,w1,hconv,hrow,hbel⟩:=tvb7 (w:=w) (base:=w.heap.size) (Nat.le_refl _) nm (by omega)
 have HROW:=hid hrow
 have HB:=hid hbel
 have HCELL:=hid hcell
 clear hrow hbel hcell
 go_enter Tryz.func53,Tryz.ntmps53
 go_wp2
 go_loopw [5,12] (fun bv kv wr=>∃k:Nat,k≤l.length∧kv = .int .i64 k∧tob7 wr w.heap.size bv (lnS nm (l.take k))∧Below w.heap.size w wr) (fun _ kv _=>l.length-(RowKit.intOf kv).toNat)
 case atStart=>exact⟨0,Nat.zero_le _,rfl,HROW.out,HB.out⟩
 case round =>
  clear HROW HB hconv
  obtain⟨k,hk,rfl,hr,hb⟩:=hrel
  obtain⟨g,cap,rfl,-⟩:=id hr
  have HR:=hid hr
  have HB:=hid hb
  have hln:(lnS nm (l.take k)).length≤3000000:=by
   have:=eib7 (l.take k) nm fun n hn=>hwf n (List.mem_of_mem_take hn)
   rw[List.length_take]at this
   omega
  clear hr hb
  by_cases hlt:k<l.length
  ·have hx:=ka7 (c:=c) Tryz.underlying78 qc7 (ha (by omega)) hlt
   have hc:wr.cell? ⟨b,off+k,none⟩=some (.int .i64 (l[k])):=aa7 HB.out (HCELL.out k hlt)
   have hwk:za7 l[k]:=hwf _ (List.getElem_mem hlt)
   have hsucc:lnS nm (l.take (k+1))=ci7 (lnS nm (l.take k)) l[k]:=by rw[fwb7 nm l hlt,List.getD_eq_getElem?_getD,List.getElem?_eq_getElem hlt];rfl
   obtain⟨n,hn⟩:∃n,n=l[k]:=⟨_,rfl⟩
   rw[← hn]at hc hwk hsucc
   obtain⟨bs,hbs⟩:∃bs,bs=lnS nm (l.take k):=⟨_,rfl⟩
   rw[← hbs]at HR hln hsucc ⊢
   clear hn hbs
   by_cases hp:0<bs.length
   ·rw[show ci7 bs n=(bs++[32])++itoa n by unfold ci7;rw[if_pos hp]]at hsucc
    have HS:=hid hsucc
    clear hsucc
    have AP:=hid (grb7 HR.out HB.out 32 rfl hln)
    go_wp2_with (at_builtin;refine bu7 _ rfl _ _ 24 24 rfl rfl rfl AP.out ?_)
    intro v2 w2 hr2 hb2
    obtain⟨b2,hbe⟩:∃b2,b2=bs++[32]:=⟨_,rfl⟩
    rw[← hbe]at hr2
    have hl2:b2.length≤3000001:=by rw[hbe];simp;omega
    rw[← hbe]at HS
    clear hbe
    have HR2:=hid hr2
    have HB2:=hid hb2
    clear hr2 hb2 HR HB
    go_wp2_with (go_at_call 126;refine (nsb7 hwk _).mono ?_)
    rintro e w3 ⟨rfl,hb3⟩
    have HR3:=hid (HR2.out.below hb3)
    have HB3:=hid (ca7 HB2.out hb3)
    clear hb3 HR2 HB2
    obtain⟨g3,cap3,rfl,-⟩:=id HR3.out
    have AP:=hid (irb7 HR3.out HB3.out hwk (by omega))
    go_wp2_with (at_builtin;refine bu7 _ rfl _ _ 24 9 rfl rfl rfl AP.out ?_)
    intro v4 w4 hr4 hb4
    have HR4:=hid hr4
    have HB4:=hid hb4
    clear hr4 hb4 HR3 HB3
    go_wp2
    go_roundw
    ·exact⟨k+1,by omega,by simp,by rw[HS.out];exact HR4.out,HB4.out⟩
    ·simp[RowKit.intOf];omega
   ·rw[show ci7 bs n=bs++itoa n by unfold ci7;rw[if_neg hp]]at hsucc
    have HS:=hid hsucc
    clear hsucc
    go_wp2_with (go_at_call 126;refine (nsb7 hwk _).mono ?_)
    rintro e w3 ⟨rfl,hb3⟩
    have HR3:=hid (HR.out.below hb3)
    have HB3:=hid (ca7 HB.out hb3)
    clear hb3 HR HB
    have AP:=hid (irb7 HR3.out HB3.out hwk (by omega))
    go_wp2_with (at_builtin;refine bu7 _ rfl _ _ 24 9 rfl rfl rfl AP.out ?_)
    intro v4 w4 hr4 hb4
    have HR4:=hid hr4
    have HB4:=hid hb4
    clear hr4 hb4 HR3 HB3
    go_wp2
    go_roundw
    ·exact⟨k+1,by omega,by simp,by rw[HS.out];exact HR4.out,HB4.out⟩
    ·simp[RowKit.intOf];omega
  ·obtain rfl:k=l.length:=by omega
   have hbs:lnS nm (l.take l.length)=lnS nm l:=by rw[List.take_length]
   rw[hbs]at HR hln ⊢
   clear hbs
   have AP:=hid (grb7 HR.out HB.out 10 rfl hln)
   go_wp2_with (at_builtin;refine bu7 _ rfl _ _ 24 24 rfl rfl rfl AP.out ?_)
   intro v2 w2 hr2 hb2
   have HB2:=hid hb2
   have hcv:=wwb7 hr2
   clear hr2 hb2 HR HB
   go_wp2
   go_ret
   exact⟨rfl,HB2.out⟩
end Go.Proofs.YtabadfkikdefeaaGreat
namespace Go.Proofs.YtabadfkikdefeaaGreat
open Go.RowKit
theorem vlb7:∃j,Tryz.prog.info? 127=some j∧j.size=2:=by
 obtain⟨j,hj,hs⟩:=Option.map_eq_some_iff.1 (show (Tryz.prog.info? 127).map (·.size)=some 2 by kernel_rfl)
 exact⟨j,hj,hs⟩
theorem vvb7 (b:Nat) (w:World) (h0:w.cell? ⟨b,0,none⟩=some (.pointer (some ⟨b,0,none⟩))) :
  Calls Tryz.prog 125 #[.pointer (some ⟨b,0,none⟩)] w fun e w'=>e = .returned (.tuple #[])∧w'=w:=by
 obtain⟨j,hj,hjs⟩:=vlb7
 go_enter Tryz.func125,Tryz.ntmps125
 go_wp2
 rw[Lib.run_neq_ptr_same w _ Tryz.underlying125 hj]
 go_wp2
 go_end0
 exact⟨rfl,rfl⟩
theorem zub7 (b:Nat) (w:World) (h0:w.cell? ⟨b,0,none⟩=some (.pointer none)) (hsh:w.shape? b=some (127,2)) (hfz:w.frozen? ⟨b,0,none⟩=false) :
  Calls Tryz.prog 125 #[.pointer (some ⟨b,0,none⟩)] w fun e w'=>e = .returned (.tuple #[])∧w'=w.setCell ⟨b,0,none⟩ (.pointer (some ⟨b,0,none⟩)):=by
 obtain⟨j,hj,hjs⟩:=vlb7
 go_enter Tryz.func125,Tryz.ntmps125
 go_wp2
 rw[Lib.run_to_unsafe w ⟨b,0,none⟩ Tryz.underlying125 Tryz.underlying278 hj (by rw[hjs];decide) hsh (Nat.zero_lt_succ 1)]
 simp only[Result.andThen]
 rw[Oper.upon_value]
 go_wp2
 rw[run_callFunc_extern Tryz.func178 (by kernel_rfl) (by kernel_rfl) (by kernel_rfl) (e:=Extern.AbiNoEscape.same) (by kernel_rfl)]
 rw[Lib.run_noEscape]
 simp only[Result.andThen]
 rw[Oper.upon_value]
 go_wp2
 rw[Lib.run_from_unsafe w ⟨b,0,none⟩ Tryz.underlying278 Tryz.underlying125 hj hsh (by kernel_rfl)]
 simp only[Result.andThen]
 rw[Oper.upon_value]
 go_wp2
 go_end0
 exact⟨rfl,rfl⟩
end Go.Proofs.YtabadfkikdefeaaGreat

namespace Go.Proofs.YtabadfkikdefeaaGreat
open Go.RowKit
def wdb7 (m:Nat) (pre:List ea7):Prop:=(∀o∈pre,0≤o.sat)∧∀i,m.testBit i=pre.any (fun o=>o.sat.toNat==i)
theorem wdb7.nil:wdb7 0 []:=⟨fun _ h=>(List.not_mem_nil h).elim,fun i=>by simp⟩
theorem wdb7.push {m:Nat}{pre:List ea7}{s:ea7}(h:wdb7 m pre) (hs:0≤s.sat):wdb7 (m ||| 2 ^ s.sat.toNat) (pre++[s]):=by
 refine⟨fun o ho=>?_,fun i=>?_⟩
 ·rcases List.mem_append.1 ho with ho | ho
  ·exact h.1 o ho
  ·rw[List.mem_singleton.1 ho];exact hs
 ·rw[Nat.testBit_or,Nat.testBit_two_pow,h.2 i,List.any_append,List.any_cons,List.any_nil,Bool.or_false]
  congr 1
def si7 (x:ba7) (s:Int):Bool:=decide (0≤s)&&decide (s<x.sats.length)
def qj7 (x:ba7) (pre:List ea7) (s:ea7):Bool:=((si7 x s.sat&&decide (1≤s.load))&&decide (s.load≤1000000000))&&pre.all (fun o=>o.sat != s.sat)
theorem gt7 {x:ba7}{m:Nat}{pre:List ea7}{s:ea7}(h:wdb7 m pre):qj7 x pre s = !jd7 x m s:=by
 by_cases h0:0≤s.sat
 ·have e:m.testBit s.sat.toNat = !pre.all (fun o=>o.sat != s.sat):=by
   rw[h.2,List.not_all_eq_any_not]
   rw[Bool.eq_iff_iff,List.any_eq_true,List.any_eq_true]
   constructor
   ·rintro⟨o,ho,e⟩
    refine⟨o,ho, ?_⟩
    have:=h.1 o ho
    simp at e ⊢; omega
   ·rintro⟨o,ho,e⟩
    refine⟨o,ho, ?_⟩
    have:=h.1 o ho
    simp at e ⊢; omega
  unfold qj7 jd7 si7
  rw[e,Bool.eq_iff_iff]
  simp only[Bool.and_eq_true,decide_eq_true_eq,Bool.not_eq_true',Bool.or_eq_false_iff,decide_eq_false_iff_not,Bool.not_eq_false']
  constructor
  ·rintro⟨⟨⟨h1,h2⟩,h3⟩,h4⟩
   exact⟨⟨⟨⟨by omega,by omega⟩,h4⟩,by omega⟩,by omega⟩
  ·rintro⟨⟨⟨⟨h1,h2⟩,h4⟩,h3⟩,h5⟩
   exact⟨⟨⟨⟨by omega,by omega⟩,by omega⟩,by omega⟩,h4⟩
 ·unfold qj7 jd7 si7
  rw[decide_eq_false h0,decide_eq_true (show s.sat<0 by omega)];simp
theorem wgb7 {x:ba7}{pre:List ea7}{s:ea7}(h:qj7 x pre s=true):de7 x s:=by
 simp only[qj7,si7,Bool.and_eq_true,decide_eq_true_eq]at h
 exact⟨h.1.1.1,h.1.1.2,h.1.2⟩
theorem oq7 (x:ba7):∀(l:List (List ea7)) (ld:Bool),(pe7 x l false ld).1=false
 | [],_=>rfl
 | t::ts,ld=>by
  unfold pe7
  cases pi7 x t with
  | none=>rfl
  | some p=>rw[Bool.false_and];exact oq7 x ts _
def ij7 (n:Nat):List Int:=List.replicate n 0
structure hec7 (x:ba7) (l:List (List ea7)) (k:Nat) (r ld:Bool) (out:List Int):Prop where
 len:out.length=x.sats.length
 yes:r=true→id7 x l=pe7 x (l.drop k) true ld∧out=(l.take k).foldl mh7 (List.replicate x.sats.length 0)∧fc7 out (gb7 l k)
 no:r=false→(id7 x l).1=false
theorem hec7.start (x:ba7) (l:List (List ea7)):hec7 x l 0 true true (ij7 x.sats.length) :=
 ⟨by simp[ij7],fun _=>⟨rfl,rfl,fc7.zero _⟩,fun h=>by cases h⟩
structure wmb7 (x:ba7) (l:List (List ea7)) (k:Nat) (t:List ea7) (j:Nat) (r ld:Bool) (sum:Int) (out:List Int):Prop where
 len:out.length=x.sats.length
 sumB:0≤sum∧sum≤1000000000*(j:Int)
 yes:r=true→(∃m,wdb7 m (t.take j)∧pi7 x t=(t.drop j).foldl (pj7 x) (some (m,x.troom-sum)))∧id7 x l=pe7 x (l.drop k) true ld∧0<t.length ∧
  out=(t.take j).foldl ai7 ((l.take k).foldl mh7 (List.replicate x.sats.length 0))∧fc7 out (gb7 l k+j)
 no:r=false→(id7 x l).1=false
theorem wmb7.start {x:ba7}{l:List (List ea7)}{k:Nat}{r ld:Bool}{out:List Int}(h:hec7 x l k r ld out) (hk:k<l.length):wmb7 x l k l[k] 0 (r&&decide (0<l[k].length)) ld 0 out:=by
 refine⟨h.len,by decide,fun hr=>?_,fun hr=>?_⟩
 ·simp only[Bool.and_eq_true,decide_eq_true_eq]at hr
  obtain⟨h1,h2,h3⟩:=h.yes hr.1
  exact⟨⟨0,wdb7.nil,by simp only[pi7,List.drop_zero,Int.sub_zero]⟩,h1,hr.2,h2,h3⟩
 ·cases r with
  | false=>exact h.no rfl
  | true =>
   have h0:l[k].length=0:=by simpa using hr
   rw[(h.yes rfl).1,List.drop_eq_getElem_cons hk,List.eq_nil_of_length_eq_zero h0,lk7 (m:=0) (left:=x.troom) rfl]
   exact oq7 x _ _
theorem wmb7.step {x:ba7}{l:List (List ea7)}{k:Nat}{t:List ea7}{j:Nat}{r ld:Bool}{sum:Int}{out:List Int}(h:wmb7 x l k t j r ld sum out) (hj:j<t.length)
  (hr:(r&&qj7 x (t.take j) t[j])=true):wmb7 x l k t (j+1) true ld (sum+t[j].load) (ai7 out t[j]):=by
 simp only[Bool.and_eq_true]at hr
 have ho:=wgb7 hr.2
 obtain⟨⟨m,hm,ht⟩,h1,h2,h3,h4⟩:=h.yes hr.1
 have hb:=gt7 (x:=x) (s:=t[j]) hm
 rw[hr.2]at hb
 have hb2:jd7 x m t[j]=false:=by simpa using hb.symm
 have hl:=ho.2
 have hs:=h.sumB
 refine⟨by rw[xo7];exact h.len,by push_cast;omega,fun _=>⟨⟨m ||| 2 ^ t[j].sat.toNat, ?_, ?_⟩,h1,h2, ?_, ?_⟩,fun h=>by cases h⟩
 ·rw[List.take_succ_eq_append_getElem hj];exact hm.push ho.1.1
 ·rw[ht,List.drop_eq_getElem_cons hj,List.foldl_cons,iq7 hb2,show x.troom-sum-t[j].load=x.troom-(sum+t[j].load) by omega]
 ·rw[wa7 _ _ _ _ hj,← h3]
 ·unfold ai7
  refine h4.add ?_ ⟨by omega,hl.2⟩
  have hlt:t[j].sat.toNat<out.length:=by have:=ho.1;rw[h.len];omega
  rw[List.getD_eq_getElem?_getD,List.getElem?_eq_getElem hlt]
  exact h4.get hlt
theorem cdb7 {x:ba7}{l:List (List ea7)}{k:Nat}(hk:k<l.length) {ld:Bool}(h:pi7 x l[k]=none):(pe7 x (l.drop k) true ld).1=false:=by
 rw[List.drop_eq_getElem_cons hk,el7 h]
theorem wmb7.stop {x:ba7}{l:List (List ea7)}{k:Nat}(hk:k<l.length) {j:Nat}{r ld:Bool}{sum:Int}{out:List Int}(h:wmb7 x l k l[k] j r ld sum out) (hj:j<l[k].length)
  (hr:(r&&qj7 x (l[k].take j) (l[k])[j])=false):wmb7 x l k l[k] (j+1) false ld sum out:=by
 refine⟨h.len,(by have:=h.sumB;push_cast;omega),(fun h=>by cases h),fun _=>?_⟩
 cases r with
 | false=>exact h.no rfl
 | true =>
  rw[Bool.true_and]at hr
  obtain⟨⟨m,hm,ht⟩,h1,-,-,-⟩:=h.yes rfl
  have hb:=gt7 (x:=x) (s:=(l[k])[j]) hm
  rw[hr]at hb
  have hb2:jd7 x m (l[k])[j]=true:=by simpa using hb.symm
  rw[h1]
  refine cdb7 hk ?_
  rw[ht,List.drop_eq_getElem_cons hj,List.foldl_cons,ln7 hb2,zn7]
theorem wmb7.done {x:ba7}{l:List (List ea7)}{k:Nat}(hk:k<l.length) {r ld:Bool}{sum:Int}{out:List Int}(h:wmb7 x l k l[k] l[k].length r ld sum out):hec7 x l (k+1) r (ld&&decide (sum≤x.troom)) out:=by
 refine⟨h.len,fun hr=>?_,h.no⟩
 obtain⟨⟨m,hm,ht⟩,h1,h2,h3,h4⟩:=h.yes hr
 rw[List.drop_length,List.foldl_nil]at ht
 rw[List.take_length]at h3
 refine⟨?_, ?_, ?_⟩
 ·rw[h1,List.drop_eq_getElem_cons hk,lk7 ht,decide_eq_true h2,Bool.and_true]
  congr 2
  rw[Bool.eq_iff_iff];simp
 ·rw[wa7 _ _ _ _ hk,h3];rfl
 ·rw[df7 hk];exact h4
theorem wmb7.stop2 {x:ba7}{l:List (List ea7)}{k:Nat}(hk:k<l.length) {t:List ea7}(ht:t=l[k]) {j:Nat}{r ld:Bool}{sum:Int}{out:List Int}(h:wmb7 x l k t j r ld sum out) (hj:j<t.length)
  (hr:(r&&qj7 x (t.take j) t[j])=false):wmb7 x l k t (j+1) false ld sum out:=by
 subst ht;exact h.stop hk hj hr
theorem hec7.done {x:ba7}{l:List (List ea7)}{r ld:Bool}{out:List Int}(h:hec7 x l l.length r ld out):(r=true→id7 x l=(true,ld)∧out=oj7 x l)∧(r=false→(id7 x l).1=false) :=
 ⟨fun hr=>by
  obtain⟨h1,h2,-⟩:=h.yes hr
  rw[List.drop_length]at h1
  rw[List.take_length]at h2
  exact⟨h1,h2⟩,h.no⟩
/-! Bikes. -/
def dp7 (m n:Nat):List Int:=(List.range n).map fun i=>if m.testBit i then 1 else 0
theorem qdb7 (m n:Nat):(dp7 m n).length=n:=by simp[dp7]
theorem xw7 (m n i:Nat) (h:i<(dp7 m n).length):(dp7 m n)[i]=if m.testBit i then 1 else 0:=by simp[dp7]
theorem opb7 (m n i:Nat) (v:Int) (hv:v=1):(dp7 m n).set i v=dp7 (m ||| 2 ^ i) n:=by
 subst hv
 refine List.ext_getElem (by simp[dp7]) fun j h1 h2=>?_
 rw[List.getElem_set]
 simp only[dp7,List.getElem_map,List.getElem_range,Nat.testBit_or,Nat.testBit_two_pow]
 by_cases e:i=j <;> simp[e]
theorem tmb7 (n:Nat):dp7 0 n=ij7 n:=by
 refine List.ext_getElem (by simp[dp7,ij7]) fun j h1 h2=>?_
 simp[dp7,ij7]
def lu7 (x:ba7) (m:Nat) (c:Int):Bool:=((decide (0≤c))&&decide (c<x.custs.length)) && !m.testBit c.toNat
theorem us7 (x:ba7) (m:Nat) (c:Int):lu7 x m c = !ae7 x m c:=by
 unfold lu7 ae7
 rw[Bool.eq_iff_iff]
 simp only[Bool.and_eq_true,decide_eq_true_eq,Bool.not_eq_true',Bool.or_eq_false_iff,decide_eq_false_iff_not]
 constructor
 ·rintro⟨⟨h1,h2⟩,h3⟩
  exact⟨⟨by omega,by omega⟩,h3⟩
 ·rintro⟨⟨h1,h2⟩,h3⟩
  exact⟨⟨by omega,by omega⟩,h3⟩
structure BInv (x:ba7) (l:List ga7) (tr lt:Bool) (k:Nat) (r ld:Bool) (sv out:List Int):Prop where
 len:out.length=x.sats.length
 svL:sv.length=x.custs.length
 yes:r=true→tr=true∧(∃(m:Nat) (lb:Bool),le7 x l=bi7 x (l.drop k) m lb∧ld=(lt&&lb)∧sv=dp7 m x.custs.length∧m<2 ^ x.custs.length)∧out=(l.take k).foldl (kp7 x) (List.replicate x.sats.length 0)∧fc7 out (pb7 l k)
 no:r=false→tr=false∨(le7 x l).1=false
theorem BInv.start (x:ba7) (l:List ga7) (tr lt:Bool):BInv x l tr lt 0 tr lt (ij7 x.custs.length) (ij7 x.sats.length) :=
 ⟨by simp[ij7],by simp[ij7],fun h=>⟨h,⟨0,true,rfl,by simp,(tmb7 _).symm,Nat.two_pow_pos _⟩,rfl,fc7.zero _⟩,fun h=>.inl h⟩
structure sv7 (x:ba7) (l:List ga7) (tr lt:Bool) (k:Nat) (b:ga7) (j:Nat) (r ld:Bool) (sum:Int) (sv out:List Int):Prop where
 len:out.length=x.sats.length
 svL:sv.length=x.custs.length
 sumB:0≤sum∧sum≤1000000000*(j:Int)
 yes:r=true→tr=true∧(∃(m0 m:Nat) (lb:Bool),le7 x l=bi7 x (l.drop k) m0 lb∧ld=(lt&&lb)∧bg7 x b=false∧pq7 x m0 b.stops=(b.stops.drop j).foldl (ni7 x) (some (m,x.broom-sum)) ∧
  sv=dp7 m x.custs.length∧m<2 ^ x.custs.length)∧out=(b.stops.take j).foldl (jf7 x b.sat) ((l.take k).foldl (kp7 x) (List.replicate x.sats.length 0))∧fc7 out (pb7 l k+j)
 no:r=false→tr=false∨(le7 x l).1=false
theorem fl7 (x:ba7) (b:ga7):bg7 x b = !(decide (0<b.stops.length)&&si7 x b.sat):=by
 unfold bg7 si7
 rw[Bool.eq_iff_iff]
 simp only[Bool.or_eq_true,decide_eq_true_eq,Bool.not_eq_true',Bool.and_eq_false_iff,decide_eq_false_iff_not]
 omega
theorem sv7.start {x:ba7}{l:List ga7}{tr lt:Bool}{k:Nat}{r ld:Bool}{sv out:List Int}(h:BInv x l tr lt k r ld sv out) (hk:k<l.length) :
  sv7 x l tr lt k l[k] 0 ((r&&decide (0<l[k].stops.length))&&si7 x l[k].sat) ld 0 sv out:=by
 refine⟨h.len,h.svL,by decide,fun hr=>?_,fun hr=>?_⟩
 ·rw[Bool.and_assoc,Bool.and_eq_true]at hr
  obtain⟨h0,⟨m,lb,h1,h2,h3,h4⟩,h5,h6⟩:=h.yes hr.1
  exact⟨h0,⟨m,m,lb,h1,h2,by rw[fl7,hr.2];rfl,by simp only[pq7,List.drop_zero,Int.sub_zero],h3,h4⟩,h5,h6⟩
 ·cases r with
  | false=>exact h.no rfl
  | true =>
   rw[Bool.true_and]at hr
   obtain⟨h0,⟨m,lb,h1,h2,h3,h4⟩,h5,h6⟩:=h.yes rfl
   refine .inr ?_
   rw[h1,List.drop_eq_getElem_cons hk,pn7 (by rw[fl7,hr];rfl)]
theorem sv7.addLoad_eq {x:ba7}{sat:Int}{out:List Int}{c:Int}(hs:si7 x sat=true) (hl:out.length=x.sats.length) (hc:0≤c∧c<x.custs.length) :
  jf7 x sat out c=out.set sat.toNat (out.getD sat.toNat 0+(x.custs.getD c.toNat ⟨0,0,0,0⟩).load):=by
 simp only[si7,Bool.and_eq_true,decide_eq_true_eq]at hs
 unfold jf7
 rw[if_pos (by rw[hl];omega)]
theorem sv7.step {x:ba7}{l:List ga7}{tr lt:Bool}{k:Nat}{b:ga7}{j:Nat}{ld:Bool}{sum:Int}{sv out:List Int}(h:sv7 x l tr lt k b j true ld sum sv out) (hj:j<b.stops.length)
  (hcu:∀c∈x.custs,0≤c.load∧c.load≤1000000000) (hc:0≤b.stops[j]∧b.stops[j]<x.custs.length) (h0:sv.getD (b.stops[j]).toNat 0=0) :
  sv7 x l tr lt k b (j+1) true ld (sum+(x.custs.getD (b.stops[j]).toNat ⟨0,0,0,0⟩).load) (sv.set (b.stops[j]).toNat 1) (jf7 x b.sat out b.stops[j]):=by
 obtain⟨t0,⟨m0,m,lb,h1,h2,h3,h4,h5,h6⟩,h7,h8⟩:=h.yes rfl
 obtain⟨c,hce⟩:∃c,c=b.stops[j]:=⟨_,rfl⟩
 rw[← hce]at hc h0 ⊢
 have hcl:c.toNat<x.custs.length:=by omega
 have hld:=hcu _ (List.getElem_mem hcl)
 have hcd:(x.custs.getD c.toNat ⟨0,0,0,0⟩)=x.custs[c.toNat]:=by rw[List.getD_eq_getElem?_getD,List.getElem?_eq_getElem hcl];rfl
 have hsb:=h.sumB
 have htb:m.testBit c.toNat=false:=by
  rw[h5,List.getD_eq_getElem?_getD,List.getElem?_eq_getElem (by rw[qdb7];exact hcl),Option.getD_some,xw7]at h0
  cases e:m.testBit c.toNat with
  | false=>rfl
  | true=>rw[e]at h0;cases h0
 have hcb:ae7 x m c=false:=by
  have:=us7 x m c
  unfold lu7 at this
  rw[decide_eq_true hc.1,decide_eq_true hc.2,htb]at this
  simpa using this.symm
 have hth:si7 x b.sat=true:=by
  rw[fl7]at h3
  have:(decide (0<b.stops.length)&&si7 x b.sat)=true:=by simpa using h3
  exact (Bool.and_eq_true_iff.1 this).2
 refine⟨by rw[iw7];exact h.len,by rw[List.length_set];exact h.svL,by rw[hcd];push_cast;omega,fun _=>⟨t0,⟨m0,m ||| 2 ^ c.toNat,lb,h1,h2,h3, ?_, ?_, ?_⟩, ?_, ?_⟩,fun h=>by cases h⟩
 ·rw[h4,List.drop_eq_getElem_cons hj,List.foldl_cons,← hce,uq7 hcb]
  show List.foldl (ni7 x) (some (m ||| 2 ^ c.toNat,x.broom-sum-(x.custs.getD c.toNat ⟨0,0,0,0⟩).load)) _=_
  rw[Int.sub_sub]
 ·rw[h5,opb7 _ _ _ _ rfl]
 ·exact Nat.or_lt_two_pow h6 (Nat.pow_lt_pow_right (by decide) hcl)
 ·rw[wa7 _ _ _ _ hj,← h7,← hce]
 ·rw[sv7.addLoad_eq hth h.len hc,← Nat.add_assoc]
  have hs2:b.sat.toNat<out.length:=by
   simp only[si7,Bool.and_eq_true,decide_eq_true_eq]at hth
   rw[h.len];omega
  refine h8.add ?_ (by rw[hcd];exact hld)
  rw[List.getD_eq_getElem?_getD,List.getElem?_eq_getElem hs2]
  exact h8.get hs2
theorem sv7.twice {x:ba7}{l:List ga7}{tr lt:Bool}{k:Nat}(hk:k<l.length) {j:Nat}{r ld:Bool}{sum:Int}{sv out:List Int}(h:sv7 x l tr lt k l[k] j r ld sum sv out) (hj:j<l[k].stops.length)
  (hr:r=true→¬((0≤(l[k]).stops[j]∧(l[k]).stops[j]<x.custs.length)∧sv.getD ((l[k]).stops[j]).toNat 0=0)):r=true→(le7 x l).1=false:=by
 intro hrt
 obtain⟨t0,⟨m0,m,lb,h1,h2,h3,h4,h5,h6⟩,h7,h8⟩:=h.yes hrt
 have hr:=hr hrt
 obtain⟨c,hce⟩:∃c,c=(l[k]).stops[j]:=⟨_,rfl⟩
 rw[← hce]at hr
 have hcb:ae7 x m c=true:=by
  have:=us7 x m c
  cases e:ae7 x m c with
  | true=>rfl
  | false =>
   rw[e]at this
   simp only[lu7,Bool.and_eq_true,decide_eq_true_eq,Bool.not_eq_true',Bool.not_false]at this
   refine absurd ⟨this.1, ?_⟩ hr
   rw[h5,List.getD_eq_getElem?_getD,List.getElem?_eq_getElem (by rw[qdb7];omega),Option.getD_some,xw7,this.2];rfl
 rw[h1,List.drop_eq_getElem_cons hk,ll7 (by rw[h4,List.drop_eq_getElem_cons hj,List.foldl_cons,← hce,nn7 hcb,kn7])]
theorem sv7.stop {x:ba7}{l:List ga7}{tr lt:Bool}{k:Nat}(hk:k<l.length) {j:Nat}{r ld:Bool}{sum sum':Int}{sv out sv' out':List Int}(h:sv7 x l tr lt k l[k] j r ld sum sv out) (hj:j<l[k].stops.length)
  (hr:r=true→¬((0≤(l[k]).stops[j]∧(l[k]).stops[j]<x.custs.length)∧sv.getD ((l[k]).stops[j]).toNat 0=0)) (hl:out'.length=x.sats.length) (hs:sv'.length=x.custs.length) (hb:0≤sum'∧sum'≤1000000000*((j+1:Nat):Int)) :
  sv7 x l tr lt k l[k] (j+1) false ld sum' sv' out' :=
 ⟨hl,hs,hb,(fun h=>by cases h),fun _=>(by
  rcases Bool.eq_false_or_eq_true r with e | e
  ·exact .inr (h.twice hk hj hr e)
  ·exact h.no e)⟩
theorem sv7.done {x:ba7}{l:List ga7}{tr lt:Bool}{k:Nat}(hk:k<l.length) {r ld:Bool}{sum:Int}{sv out:List Int}(h:sv7 x l tr lt k l[k] l[k].stops.length r ld sum sv out) :
  BInv x l tr lt (k+1) r (ld&&decide (sum≤x.broom)) sv out:=by
 refine⟨h.len,h.svL,fun hr=>?_,h.no⟩
 obtain⟨t0,⟨m0,m,lb,h1,h2,h3,h4,h5,h6⟩,h7,h8⟩:=h.yes hr
 rw[List.drop_length,List.foldl_nil]at h4
 rw[List.take_length]at h7
 refine⟨t0,⟨m,lb&&decide (0≤x.broom-sum), ?_, ?_,h5,h6⟩, ?_, ?_⟩
 ·rw[h1,List.drop_eq_getElem_cons hk,up7 h3 h4]
 ·rw[h2,Bool.and_assoc]
  congr 2
  rw[Bool.eq_iff_iff];simp
 ·rw[wa7 _ _ _ _ hk,h7];rfl
 ·rw[re7 hk];exact h8
theorem sv7.stop2 {x:ba7}{l:List ga7}{tr lt:Bool}{k:Nat}(hk:k<l.length) {b:ga7}(hbe:b=l[k]) {j:Nat}{r ld:Bool}{sum sum':Int}{sv out sv' out':List Int}(h:sv7 x l tr lt k b j r ld sum sv out) (hj:j<b.stops.length)
  (hr:r=true→¬((0≤b.stops[j]∧b.stops[j]<x.custs.length)∧sv.getD (b.stops[j]).toNat 0=0)) (hl:out'.length=x.sats.length) (hs:sv'.length=x.custs.length) (hb:0≤sum'∧sum'≤1000000000*((j+1:Nat):Int)) :
  sv7 x l tr lt k b (j+1) false ld sum' sv' out':=by
 subst hbe;exact h.stop hk hj hr hl hs hb
theorem sv7.facts {x:ba7}{l:List ga7}{tr lt:Bool}{k:Nat}{b:ga7}{j:Nat}{ld:Bool}{sum:Int}{sv out:List Int}(h:sv7 x l tr lt k b j true ld sum sv out) (c:Nat) :
  (0≤b.sat∧b.sat<x.sats.length)∧(0≤sv.getD c 0∧sv.getD c 0≤1)∧fc7 out (pb7 l k+j):=by
 obtain⟨t0,⟨m0,m,lb,h1,h2,h3,h4,h5,h6⟩,h7,h8⟩:=h.yes rfl
 refine⟨?_, ?_,h8⟩
 ·rw[fl7]at h3
  have:(decide (0<b.stops.length)&&si7 x b.sat)=true:=by simpa using h3
  have:=(Bool.and_eq_true_iff.1 this).2
  simpa[si7]using this
 ·rw[h5,List.getD_eq_getElem?_getD]
  by_cases hc:c<(dp7 m x.custs.length).length
  ·rw[List.getElem?_eq_getElem hc,Option.getD_some,xw7];split <;> decide
  ·rw[List.getElem?_eq_none (by omega)];decide
theorem sv7.go {x:ba7}{l:List ga7}{tr lt:Bool}{k:Nat}(hk:k<l.length) {b:ga7}(hbe:b=l[k]) {j:Nat}{ld:Bool}{sum:Int}{sv out:List Int}(h:sv7 x l tr lt k b j true ld sum sv out) (hj:j<b.stops.length)
  (hcu:∀c∈x.custs,0≤c.load∧c.load≤1000000000) {c:Int} (hce:c=b.stops[j]) (hc:0≤c∧c<x.custs.length) {v ov lo:Int} (hv:sv.getD c.toNat 0=v) (hov:out.getD b.sat.toNat 0=ov) (hlo:(x.custs.getD c.toNat ⟨0,0,0,0⟩).load=lo) :
  sv7 x l tr lt k b (j+1) (v+1==1) ld (sum+lo) (sv.set c.toNat (v+1)) (out.set b.sat.toNat (ov+lo)):=by
 subst hce hv hov hlo
 have hf:=h.facts 0
 have hcl:(b.stops[j]).toNat<x.custs.length:=by omega
 have hld:=hcu _ (List.getElem_mem hcl)
 have hcd:(x.custs.getD (b.stops[j]).toNat ⟨0,0,0,0⟩)=x.custs[(b.stops[j]).toNat]:=by rw[List.getD_eq_getElem?_getD,List.getElem?_eq_getElem hcl];rfl
 by_cases h0:sv.getD (b.stops[j]).toNat 0=0
 ·have:=h.step hj hcu hc h0
  rw[sv7.addLoad_eq (by simp[si7,hf.1]) h.len hc]at this
  rw[h0]
  exact this
 ·have e:(sv.getD (b.stops[j]).toNat 0+1==1)=false:=by rw[beq_eq_false_iff_ne];omega
  rw[e]
  have hs:=h.sumB
  exact h.stop2 hk hbe hj (fun _ hn=>h0 hn.2) (by rw[List.length_set];exact h.len) (by rw[List.length_set];exact h.svL) (by rw[hcd];push_cast;omega)
end Go.Proofs.YtabadfkikdefeaaGreat


namespace Go.Proofs.YtabadfkikdefeaaGreat
open Go.RowKit
/-! Sums. -/
theorem pub7:∀(l:List Int) (k:Nat) (h:k<l.length) (v:Int),(l.set k v).sum=l.sum+(v-l[k])
 | a::l,0,_,v=>by simp;omega
 | a::l,k+1,h,v=>by
  rw[List.set_cons_succ,List.sum_cons,List.sum_cons,pub7 l k (Nat.lt_of_succ_lt_succ h) v,List.getElem_cons_succ];omega
def bump (l:List Int) (k:Nat) (v:Int):List Int:=l.set k (l.getD k 0+v)
theorem zt7 {l:List Int}{k:Nat}(h:k<l.length) (v:Int):(bump l k v).sum=l.sum+v:=by
 unfold bump
 rw[pub7 l k h,List.getD_eq_getElem?_getD,List.getElem?_eq_getElem h,Option.getD_some];omega
/-! Trucks that may go. -/
def fw7 (t:List ea7):Int:=(t.map ea7.load).sum
theorem ys7 (t:List ea7) (s:ea7):fw7 (t++[s])=fw7 t+s.load:=by
 unfold fw7;rw[List.map_append,List.sum_append];simp
structure ixb7 (x:ba7) (t:List ea7):Prop where
 pos:0<t.length
 ok:∀o∈t,de7 x o
 nodup:(t.map ea7.sat).Nodup
 room:fw7 t≤x.troom
theorem ct7 (l:List (List ea7)) (t:List ea7) (s:ea7):zd7 (l++[t]) s=l++[t++[s]]:=by
 unfold zd7
 rw[List.length_append,List.length_singleton,Nat.add_sub_cancel,List.getD_eq_getElem?_getD,List.getElem?_append_right (Nat.le_refl _),Nat.sub_self,List.set_append_right _ _ (Nat.le_refl _),Nat.sub_self];rfl
theorem kr7 (l:List (List ea7)) (t:List ea7):lastT (l++[t])=t:=by
 unfold lastT
 rw[List.length_append,List.length_singleton,Nat.add_sub_cancel,List.getD_eq_getElem?_getD,List.getElem?_append_right (Nat.le_refl _),Nat.sub_self];rfl
theorem ijb7 {α:Type}{l:List α}(h:0<l.length):∃l' a,l=l'++[a]:=⟨l.dropLast,l.getLast (List.ne_nil_of_length_pos h),(List.dropLast_concat_getLast _).symm⟩
structure Fit (x:ba7) (D:Nat→Prop) (dr:List Int) (out:List (List ea7)) (left:Int):Prop where
 drop:out.foldl mh7 (ij7 x.sats.length)=dr
 many:(out.length:Int)≤x.tmany
 leftB:0≤left∧left<x.troom
 sum:dr.sum=x.troom*(out.length:Int)-left
 cnt:(((out.map List.length).sum:Nat):Int)≤dr.sum
 trucks:∀t∈out,ixb7 x t
 last:0<left→0<out.length∧fw7 (lastT out)=x.troom-left
 sats:∀t∈out,∀o∈t,D o.sat.toNat
theorem Fit.len {x:ba7}{D:Nat→Prop}{dr:List Int}{out:List (List ea7)}{left:Int}(h:Fit x D dr out left):dr.length=x.sats.length:=by
 rw[← h.drop,rl7];simp[ij7]
theorem Fit.nil {x:ba7}{D:Nat→Prop}(hr:1≤x.troom) (hm:0≤x.tmany):Fit x D (ij7 x.sats.length) [] 0 :=
 ⟨rfl,hm,by omega,by simp[ij7],by simp[ij7],(fun _ h=>by cases h),fun h=>absurd h (by decide),fun _ h=>by cases h⟩
theorem Fit.imp {x:ba7}{D D':Nat→Prop}{dr:List Int}{out:List (List ea7)}{left:Int}(h:Fit x D dr out left) (hd:∀s,D s→D' s):Fit x D' dr out left :=
 ⟨h.drop,h.many,h.leftB,h.sum,h.cnt,h.trucks,h.last,fun t ht o ho=>hd _ (h.sats t ht o ho)⟩
theorem Fit.stop {x:ba7}{D:Nat→Prop}{dr:List Int}{out:List (List ea7)}{left k:Int}{s:Nat}(h:Fit x D dr out left) (hl:0<left) (hs:s<x.sats.length) (hD:D s) (hns:∀o∈lastT out,o.sat≠s) (hk:1≤k∧k≤left) (hr:x.troom≤1000000000) :
  Fit x D (bump dr s k) (zd7 out ⟨s,k⟩) (left-k):=by
 obtain⟨h1,h2⟩:=h.last hl
 obtain⟨l,t,rfl⟩:=ijb7 h1
 rw[kr7]at h2 hns
 have hb:=h.leftB
 have hsum:=h.sum
 have hcnt:=h.cnt
 have hsl:s<dr.length:=by rw[h.len];exact hs
 have ht:=h.trucks t (by simp)
 rw[ct7]
 refine⟨?_, ?_,by omega, ?_, ?_,fun t' ht'=>?_,fun _=>⟨by simp, ?_⟩,fun t' ht' o ho=>?_⟩
 ·have hd:=h.drop
  rw[List.foldl_append,List.foldl_cons,List.foldl_nil]at hd ⊢
  unfold mh7 at hd ⊢
  rw[List.foldl_append,hd];rfl
 ·have:=h.many;simp only[List.length_append,List.length_singleton]at this ⊢; exact this
 ·rw[zt7 hsl,hsum];simp only[List.length_append,List.length_singleton];omega
 ·rw[zt7 hsl]
  simp only[List.map_append,List.sum_append,List.map_cons,List.map_nil,List.sum_cons,List.sum_nil,List.length_append,List.length_singleton,Nat.add_zero]at hcnt ⊢
  push_cast at hcnt ⊢; omega
 ·rcases List.mem_append.1 ht' with ht' | ht'
  ·exact h.trucks t' (List.mem_append_left _ ht')
  ·obtain rfl:=List.mem_singleton.1 ht'
   refine⟨by simp,fun o ho=>?_, ?_,by rw[ys7];show _+k≤_;omega⟩
   ·rcases List.mem_append.1 ho with ho | ho
    ·exact ht.ok o ho
    ·obtain rfl:=List.mem_singleton.1 ho
     exact⟨⟨Int.natCast_nonneg _,by show ((s:Nat):Int)<_;omega⟩,by show 1≤k;omega,by show k≤_;omega⟩
   ·rw[List.map_append,List.nodup_append]
    refine⟨ht.nodup,by simp,fun a ha b hb e=>?_⟩
    obtain⟨o,ho,rfl⟩:=List.mem_map.1 ha
    simp only[List.map_cons,List.map_nil,List.mem_singleton]at hb
    exact hns o ho (e.trans hb)
 ·rw[kr7,ys7,h2];show _+k=_;omega
 ·rcases List.mem_append.1 ht' with ht' | ht'
  ·exact h.sats t' (List.mem_append_left _ ht') o ho
  ·obtain rfl:=List.mem_singleton.1 ht'
   rcases List.mem_append.1 ho with ho | ho
   ·exact h.sats t (by simp) o ho
   ·obtain rfl:=List.mem_singleton.1 ho
    show D ((s:Int)).toNat
    rw[Int.toNat_natCast];exact hD
theorem Fit.push {x:ba7}{D:Nat→Prop}{dr:List Int}{out:List (List ea7)}{k:Int}{s:Nat}(h:Fit x D dr out 0) (hm:(out.length:Int)≠x.tmany) (hs:s<x.sats.length) (hD:D s) (hk:1≤k∧k≤x.troom) (hr:x.troom≤1000000000) :
  Fit x D (bump dr s k) (zd7 (out++[[]]) ⟨s,k⟩) (x.troom-k):=by
 have hb:=h.leftB
 have hsum:=h.sum
 have hcnt:=h.cnt
 have hsl:s<dr.length:=by rw[h.len];exact hs
 have hmm:=h.many
 rw[ct7,List.nil_append]
 refine⟨?_, ?_,by omega, ?_, ?_,fun t' ht'=>?_,fun _=>⟨by simp, ?_⟩,fun t' ht' o ho=>?_⟩
 ·rw[List.foldl_append,h.drop];rfl
 ·simp only[List.length_append,List.length_singleton];push_cast;omega
 ·rw[zt7 hsl,hsum];simp only[List.length_append,List.length_singleton];push_cast;rw[Int.mul_add];omega
 ·rw[zt7 hsl]
  simp only[List.map_append,List.sum_append,List.map_cons,List.map_nil,List.sum_cons,List.sum_nil,List.length_singleton,Nat.add_zero]at hcnt ⊢
  push_cast at hcnt ⊢; omega
 ·rcases List.mem_append.1 ht' with ht' | ht'
  ·exact h.trucks t' ht'
  ·obtain rfl:=List.mem_singleton.1 ht'
   refine⟨by simp,fun o ho=>?_,by simp,by show (List.map ea7.load [⟨(s:Int),k⟩]).sum≤_;simp;omega⟩
   obtain rfl:=List.mem_singleton.1 ho
   exact⟨⟨Int.natCast_nonneg _,by show ((s:Nat):Int)<_;omega⟩,by show 1≤k;omega,by show k≤_;omega⟩
 ·rw[kr7];show (List.map ea7.load [⟨(s:Int),k⟩]).sum=_;simp;omega
 ·rcases List.mem_append.1 ht' with ht' | ht'
  ·exact h.sats t' ht' o ho
  ·obtain rfl:=List.mem_singleton.1 ht'
   obtain rfl:=List.mem_singleton.1 ho
   show D ((s:Int)).toNat
   rw[Int.toNat_natCast];exact hD
/-! The loads of a draft's bikes, all together. -/
end Go.Proofs.YtabadfkikdefeaaGreat






