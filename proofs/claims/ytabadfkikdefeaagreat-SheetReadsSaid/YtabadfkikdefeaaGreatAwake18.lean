/- Contract: wharfagelaw18.Awake answers true. -/
import Derived.Test.YtabadfkikdefeaaGreatP7
set_option linter.all false
set_option maxRecDepth 100000
set_option maxHeartbeats 6400000
namespace Go.Proofs.YtabadfkikdefeaaGreat
open Go.RowKit
section
variable {TS TC TR TI B gs cs1 gc cc1 gco cco gti cti:Nat} {w:World} {x:ba7} {cs:List Value} {rco rti:List Nat}
theorem ob7.otherType {TR TI B T:Nat}{w:World}{v:Value}{rows:List (List Int)}{g q j:Nat}{rs:List Nat}{ds:List Value}{u:Value}(h:ob7 w B TR TI v rows g rs) (hr:Row w q T ds) (h1:TR≠T) (h2:TI≠T):ob7 (w.setCell ⟨q,j,none⟩ u) B TR TI v rows g rs:=by
 obtain⟨c,k0,k1,k2,k3,k4,k5,k6,k7,k8⟩:=h
 exact⟨c,k0,k1,k2,k3,k4.setApart hr h1 _ _,k5,fun i h h'=>(k6 i h h').setApart hr h2 _ _,k7,k8⟩
theorem ke7.putSats (h:ke7 TS TC TR TI w B x cs gs cs1 gc cc1 gco cco rco gti cti rti) (n1:TC≠TS) (n2:TR≠TS) (n3:TI≠TS) {S':List uob7}{j:Nat}{u:Value}(hl:S'.length=x.sats.length) (hj:j<(x.sats.flatMap pab7).length) (hS:S'.flatMap pab7=(x.sats.flatMap pab7).set j u) :
  ke7 TS TC TR TI (w.setCell ⟨gs,j,none⟩ u) B { x with sats:=S' } cs gs cs1 gc cc1 gco cco rco gti cti rti :=
 ⟨by rw[h.lit];simp only[hl],by have:=h.caps;simp only[hl];exact this,h.leS,h.leC,by show Row _ gs TS (S'.flatMap pab7);rw[hS];exact h.sats.set hj u,h.custs.setApart h.sats n1 _ _,h.costs.otherType h.sats n2 n3,h.times.otherType h.sats n2 n3,h.apart,h.apart2⟩
theorem ke7.putCusts (h:ke7 TS TC TR TI w B x cs gs cs1 gc cc1 gco cco rco gti cti rti) (n1:TS≠TC) (n2:TR≠TC) (n3:TI≠TC) {C':List ar7}{j:Nat}{u:Value}(hl:C'.length=x.custs.length) (hj:j<(x.custs.flatMap co7).length) (hC:C'.flatMap co7=(x.custs.flatMap co7).set j u) :
  ke7 TS TC TR TI (w.setCell ⟨gc,j,none⟩ u) B { x with custs:=C' } cs gs cs1 gc cc1 gco cco rco gti cti rti :=
 ⟨by rw[h.lit];simp only[hl],by have:=h.caps;simp only[hl];exact this,h.leS,h.leC,h.sats.setApart h.custs n1 _ _,by show Row _ gc TC (C'.flatMap co7);rw[hC];exact h.custs.set hj u,h.costs.otherType h.custs n2 n3,h.times.otherType h.custs n2 n3,h.apart,h.apart2⟩
end
theorem Mut.cellAt {ts:List TypeId}{B:Nat}{w w':World}(h:Mut ts B w w') {g j:Nat}{e:TypeId}{cs:List Value}{v:Value}(hr:Row w g e cs) (he:e ∉ ts) (hc:w.cell? ⟨g,j,none⟩=some v):w'.cell? ⟨g,j,none⟩=some v:=by
 obtain⟨cur,rest,h3,h4⟩:=hr
 have e':w'.heap[g]? = w.heap[g]? := by rw[h.old _ _ _ _ h3 he,h3]
 rw[World.cell?_of_block (a:=⟨g,j,none⟩) e'];exact hc
def brb7:ba7:=(na7.putTime 0 1 4).putTime 1 2 1
def eqb7:ba7:={ brb7 with sats:=[⟨60,3⟩] }
def br7:ba7:={ eqb7 with custs:=[⟨2,9,90,1⟩] }
theorem ync7:qu7 br7:=by
 unfold qu7 za7 br7 eqb7 brb7 na7 ba7.putTime setAt maxLen;simp
theorem tsb7:ra7 br7 ie7 (eb7 br7 ie7)=0:=by decide +kernel
theorem qcc7:fm7 br7 ie7=⟨[[4]],[⟨7,[9],10⟩]⟩:=by decide +kernel
theorem sic7:eb7 br7 ie7=⟨[[4]],[⟨7,[9],10⟩]⟩:=by decide +kernel
theorem rdb7:br7.custs.length≤6:=by decide
def wts:List TypeId:=[2,87]
theorem xsb7 (w:World):Calls Tryz.prog 71 #[] w fun e w'=>e = .returned (.bool true)∧Below w.heap.size w w':=by
 go_enter Tryz.func71,Tryz.ntmps71
 go_wp2_with fail
 refine (kcc7 _).mono ?_
 rintro e w1 ⟨ds,rfl,hi,hb⟩
 rw[mbb7]at hi
 obtain⟨gs,cs1,gc,cc1,gco,cco,rco,gti,cti,rti,I⟩:=hi.at
 obtain rfl:=I.lit
 clear hi
 have R0:=Row.new (w:=w1) (e:=57) (cs:=[.int .i64 na7.fin,.int .i64 na7.tmany,.int .i64 na7.troom,.int .i64 na7.bmany,.int .i64 na7.broom,.slice (some ⟨gs,0,none⟩) na7.sats.length cs1,.slice (some ⟨gc,0,none⟩) na7.custs.length cc1,.slice (some ⟨gco,0,none⟩) na7.cost.length cco,.slice (some ⟨gti,0,none⟩) na7.time.length cti]) rfl
 have hob:Old w1 (w1.alloc (.cells ([.int .i64 na7.fin,.int .i64 na7.tmany,.int .i64 na7.troom,.int .i64 na7.bmany,.int .i64 na7.broom,.slice (some ⟨gs,0,none⟩) na7.sats.length cs1,.slice (some ⟨gc,0,none⟩) na7.custs.length cc1,.slice (some ⟨gco,0,none⟩) na7.cost.length cco,.slice (some ⟨gti,0,none⟩) na7.time.length cti]).toArray 57)):=(Below.refl _ _).alloc (Nat.le_refl _) _
 have I0:=I.below hob
 have hB0:=ca7 hb hob
 have hzb:=hb.size
 clear hob I hb
 go_upto_region 2 with fail
 generalize hwq:w1.alloc (.cells _ 57)=wq at *
 clear hwq
 go_cut [] (fun wx=>ke7 87 167 78 2 wx w.heap.size br7 ([.int .i64 na7.fin,.int .i64 na7.tmany,.int .i64 na7.troom,.int .i64 na7.bmany,.int .i64 na7.broom,.slice (some ⟨gs,0,none⟩) na7.sats.length cs1,.slice (some ⟨gc,0,none⟩) na7.custs.length cc1,.slice (some ⟨gco,0,none⟩) na7.cost.length cco,.slice (some ⟨gti,0,none⟩) na7.time.length cti]) gs cs1 gc cc1 gco cco rco gti cti rti∧Row wx w1.heap.size 57 ([.int .i64 na7.fin,.int .i64 na7.tmany,.int .i64 na7.troom,.int .i64 na7.bmany,.int .i64 na7.broom,.slice (some ⟨gs,0,none⟩) na7.sats.length cs1,.slice (some ⟨gc,0,none⟩) na7.custs.length cc1,.slice (some ⟨gco,0,none⟩) na7.cost.length cco,.slice (some ⟨gti,0,none⟩) na7.time.length cti])∧Below w.heap.size w wx)
 case first =>
  obtain⟨c0,r0,l0,m0⟩:=I0.times.row (i:=0) (by decide)
  obtain⟨c1,r1,l1,m1⟩:=I0.times.row (i:=1) (by decide)
  have hne:=I0.times.apart (i:=0) (i':=1) (by decide) (by decide) (by decide)
  have I2:=(I0.setTime (i:=0) (j:=1) (by decide) (by decide) (by decide) (by decide) (by decide) 4)
  have I3:=(I2.setTime (i:=1) (j:=2) (by decide) (by decide) (by decide) (by decide) (by decide) 1)
  have I4:=I3.putSats (S':=[⟨60,3⟩]) (j:=1) (u:=ib7 3) (by decide) (by decide) (by decide) rfl (by decide) rfl
  have I5:=I4.putCusts (C':=[⟨2,9,90,1⟩]) (j:=1) (u:=ib7 9) (by decide) (by decide) (by decide) rfl (by decide) rfl
  have hr0:=R0.ne r0 (by decide)
  have hr1:=R0.ne r1 (by decide)
  have hr2:=R0.ne I0.sats (by decide)
  have hr3:=R0.ne I0.custs (by decide)
  have lS:=I0.leS
  have lC:=I0.leC
  generalize hx0:rti.getD 0 0=x0 at *
  generalize hx1:rti.getD 1 0=x1 at *
  clear hx0 hx1 m0 m1
  have R3:=hid ((((R0.setOther (a:=⟨x0,1,none⟩) hr0 (ib7 4)).setOther (a:=⟨x1,2,none⟩) hr1 (ib7 1)).setOther (a:=⟨gs,1,none⟩) hr2 (ib7 3)).setOther (a:=⟨gc,1,none⟩) hr3 (ib7 9))
  have hB3:=hid ((((hB0.setCell (p:=⟨x0,1,none⟩) l0 (ib7 4)).setCell (p:=⟨x1,2,none⟩) l1 (ib7 1)).setCell (p:=⟨gs,1,none⟩) lS (ib7 3)).setCell (p:=⟨gc,1,none⟩) lC (ib7 9))
  have HI3:=hid I5
  have d0:=r0.cell (j:=1) (by decide)
  have d1:=r1.cell (j:=2) (by decide)
  have f0:=r0.frozen 1
  have f1:=r1.frozen 2
  have f2:=I0.sats.frozen 1
  have f3:=I0.custs.frozen 1
  have d2:=I0.sats.cell (j:=1) (by decide)
  have d3:=I0.custs.cell (j:=1) (by decide)
  have hx0:∀w,(Instr.indexAt 38 (.slice (some ⟨gti,0,none⟩) na7.time.length cti) (.int .i64 0)).run Tryz.prog w = .ok (.pointer (some ⟨gti,0,none⟩)) w:=ka7 Tryz.underlying38 ah7 rfl (k:=0) (by decide)
  have hx1:∀w,(Instr.indexAt 38 (.slice (some ⟨gti,0,none⟩) na7.time.length cti) (.int .i64 1)).run Tryz.prog w = .ok (.pointer (some ⟨gti,1,none⟩)) w:=ka7 Tryz.underlying38 ah7 rfl (k:=1) (by decide)
  have hx2:∀w,(Instr.indexAt 78 (.slice (some ⟨x0,0,none⟩) (na7.time.getD 0 []).length (na7.time.getD 0 []).length) (.int .i64 1)).run Tryz.prog w = .ok (.pointer (some ⟨x0,1,none⟩)) w:=ka7 Tryz.underlying78 qc7 rfl (k:=1) (by decide)
  have hx3:∀w,(Instr.indexAt 78 (.slice (some ⟨x1,0,none⟩) (na7.time.getD 1 []).length (na7.time.getD 1 []).length) (.int .i64 2)).run Tryz.prog w = .ok (.pointer (some ⟨x1,2,none⟩)) w:=ka7 Tryz.underlying78 qc7 rfl (k:=2) (by decide)
  have hx4:∀w,(Instr.indexAt 54 (.slice (some ⟨gs,0,none⟩) na7.sats.length cs1) (.int .i64 0)).run Tryz.prog w = .ok (.pointer (some ⟨gs,0,none⟩)) w:=vb7 Tryz.underlying54 xdb7 rfl (k:=0) (by decide)
  have hx5:∀w,(Instr.indexAt 55 (.slice (some ⟨gc,0,none⟩) na7.custs.length cc1) (.int .i64 0)).run Tryz.prog w = .ok (.pointer (some ⟨gc,0,none⟩)) w:=vb7 Tryz.underlying55 cs7 rfl (k:=0) (by decide)
  have R0':=R0
  obtain⟨q0,q1,q2,q3,q4,q5,q6,q7,q8⟩:=wh7 R0
  have hrt:Row wq gti 78 (List.zipWith xib7 rti na7.time):=by obtain⟨_,_,_,_,_,kr,_⟩:=I0.times;exact kr
  have z7:∀e:At (Mut wts 0 wq),_:=fun e=>Mut.cell (j:=5) e.ok R0' (by decide) rfl
  have z8:∀e:At (Mut wts 0 wq),_:=fun e=>Mut.cell (j:=6) e.ok R0' (by decide) rfl
  have z9:∀e:At (Mut wts 0 wq),_:=fun e=>Mut.cell (j:=8) e.ok R0' (by decide) rfl
  have zc0:∀e:At (Mut wts 0 wq),_:=fun e=>Mut.cellAt e.ok hrt (by decide) c0
  have zc1:∀e:At (Mut wts 0 wq),_:=fun e=>Mut.cellAt e.ok hrt (by decide) c1
  have M0:=(Mut.refl wts 0 wq)
  have M1:=M0.trans (Mut.set r0 (by decide) (Nat.zero_le _) 1 (ib7 4))
  have M2:=M1.trans (Mut.set (r1.setOther (a:=⟨x0,1,none⟩) (Ne.symm hne) (ib7 4)) (by decide) (Nat.zero_le _) 2 (ib7 1))
  have hsR:Row ((wq.setCell ⟨x0,1,none⟩ (ib7 4)).setCell ⟨x1,2,none⟩ (ib7 1)) gs 87 _:=I3.sats
  have M3:=M2.trans (Mut.set hsR (by decide) (Nat.zero_le _) 1 (ib7 3))
  have HM0:=hid M0.drew
  have HM1:=hid M1.drew
  have HM2:=hid M2.drew
  have HM3:=hid M3.drew
  have hn01:x1≠x0:=Ne.symm hne
  have hgx0:gs≠x0:=I0.sats.ne r0 (by decide)
  have hgx1:gs≠x1:=I0.sats.ne r1 (by decide)
  have hcx0:gc≠x0:=I0.custs.ne r0 (by decide)
  have hcx1:gc≠x1:=I0.custs.ne r1 (by decide)
  have hcg:gc≠gs:=I0.custs.ne I0.sats (by decide)
  clear I0 I2 I3 I4 I5 hr0 hr1 hr2 hr3 hrt r0 r1 hB0 M0 M1 M2 M3 hsR lS lC R0' R0
  refine ma7 (Mut wts 0 wq) [19,20,21] [([0,1,2,3,4,5,6,7,8,9,10,11],12,false),([],13,false),([],14,false),([],15,false),([],16,false),([],17,false),([],18,false),([],19,true),([],20,true),([],21,true)] (by kernel_rfl) (by kernel_rfl) (fun _ _ d _ _ h=>by cases d <;> exact h) HM0.out ?_
  simp only[gd7,List.map_cons,List.map_nil,Array.getD_eq_getD_getElem?,List.getElem?_toArray,List.getElem?_cons_succ,List.getElem?_cons_zero,Option.getD_some,me7]
  repeat (go_big_quiet_step (fail))
  refine wpQuiet_nil ?_
  go_wp2
  refine⟨HM0.out,wpQuiet_nil ?_⟩
  go_wp2
  refine⟨HM1.out,wpQuiet_nil ?_⟩
  go_wp2
  refine⟨HM1.out,wpQuiet_nil ?_⟩
  go_wp2
  refine⟨HM2.out,wpQuiet_nil ?_⟩
  go_wp2
  refine⟨HM2.out,wpQuiet_nil ?_⟩
  go_wp2
  refine⟨HM2.out,wpQuiet_nil ?_⟩
  go_wp2
  refine⟨HM3.out,wpQuiet_nil ?_⟩
  go_wp2
  refine wpQuiet_nil ?_
  go_wp2
  refine wpQuiet_nil ?_
  go_wp2
  go_meet
  exact⟨HI3.out.drew,R3.out.drew,hB3.out.drew⟩
 case rest =>
  obtain⟨I,R,hB⟩:=hcut
  obtain⟨wq,rfl⟩:∃wq:World,wq=wc:=⟨_,rfl⟩
  obtain⟨W,hW,hold,r1,r2,r3,r4,r5,hz⟩:=vib7 wq [.int .i64 0,.int .i64 2] [.slice (some ⟨wq.heap.size,0,none⟩) 1 1] [.int .i64 0] [.int .i64 0,.slice (some ⟨wq.heap.size+2,0,none⟩) 1 1] [.slice (some ⟨wq.heap.size+1,0,none⟩) 1 1,.slice (some ⟨wq.heap.size+3,0,none⟩) 1 1] 121 124 3 70 37
  have HW:=hid hW
  have R1:=R.below hold
  have hB1:=ca7 hB hold
  have hI:kb7.rep W (fun b=>w.heap.size≤b) br7 _:=(I.below hold).own.rep ync7
  have hP:=fp7 (s:=0) (l:=2) (b:=0) (c:=0) r1 r2 r3 r4 (by unfold za7;decide) (by unfold za7;decide) (by unfold za7;decide) (by unfold za7;decide)
  have HI:=hid hI
  have HP:=hid hP
  obtain⟨q0,q1,q2,q3,q4,q5,q6,q7,q8⟩:=wh7 R
  have hzq:=R.lt
  have hzq1:w1.heap.size<wq.heap.size+1:=by omega
  have hzq2:w1.heap.size<wq.heap.size+1+1:=by omega
  have hzq3:w1.heap.size<wq.heap.size+1+1+1:=by omega
  have hzq4:w1.heap.size<wq.heap.size+1+1+1+1:=by omega
  clear hW hold I R hB hI hP r1 r2 r3 r4
  go_wp2_with fail
  rw[show wq.heap.size+1+1+1=wq.heap.size+3 from rfl,show wq.heap.size+1+1=wq.heap.size+2 from rfl,← HW.out]
  have hE:=bub7 HI.out HP.out (fun _=>rdb7) (by unfold bd7;decide)
  rw[show (⟨[[⟨0,2⟩]],[⟨0,[0]⟩]⟩:ab7)=ie7 from rfl,tsb7,qcc7]at hE
  refine hE.mono ?_
  clear hE
  rintro e w2 ⟨ta,tb,rfl,ht,hb2⟩
  have hopen:=ht
  obtain⟨tv,bv,ee,t3,t4⟩:=hopen
  obtain⟨a5,b5,off5,c5,hs5,-,-,-,-,-⟩:=cd7 t3
  obtain⟨a6,b6,off6,c6,hs6,-,-,ha6,-,hcell6⟩:=hk7 t4
  obtain rfl:=List.cons.inj ee |>.1
  obtain rfl:=List.cons.inj (List.cons.inj ee |>.2) |>.1
  obtain rfl:=List.cons.inj hs5 |>.1
  obtain rfl:=List.cons.inj hs6 |>.1
  obtain⟨v,k0,k1,-,-,-,kr⟩:=hcell6 0 (by decide)
  obtain rfl:=ha6 (by decide)
  obtain⟨a7,b7,off7,c7,hs7,-,-,-,-,-,-⟩:=bb7 kr
  obtain rfl:=List.cons.inj hs7 |>.1
  have hal:Below w2.heap.size w2 (w2.alloc (.cells #[.slice a5 1 c5,.slice (some ⟨b6,off6,none⟩) 1 c6] 41)):=(Below.refl _ _).alloc (Nat.le_refl _) _
  have hb3:=ca7 hb2 hal
  have HR3:=hid (R1.below hb3)
  have HP3:=hid (r5.below hb3)
  have HB3:=hid (ca7 hB1 hb3)
  have HI3:=hid (kb7.below HI.out hb3)
  have HPl3:=hid (wd7.below HP.out hb3)
  have HT3:=hid (ng7.below ht hal)
  have HK0:=hid (aa7 hal k0)
  have HK1:=hid (aa7 hal k1)
  have HKR:=hid ((ia7 hf7).below kr hal)
  have HX3:=hid (Row.new (w:=w2) (g:=w2.heap.size) (e:=41) (cs:=[.slice a5 1 c5,.slice (some ⟨b6,off6,none⟩) 1 c6]) rfl)
  obtain⟨qt,hqt⟩:∃q,q=w2.heap.size:=⟨_,rfl⟩
  rw[← hqt]at HX3
  clear q0 q1 q2 q3 q4 q5 q6 q7 q8 R1 r5 hB1 HI HP HW ht ee hs5 hs6 hs7 t3 t4 k0 k1 kr hcell6 hb2 hb3 hal ha6
  go_upto_region 5 with fail
  rw[← hqt]
  generalize w2.alloc (.cells _ 41)=w3 at *
  clear hqt
  have hix:∀w,(Instr.indexAt 39 (.slice (some ⟨b6,off6,none⟩) 1 c6) (.int .i64 0)).run Tryz.prog w = .ok (.pointer (some ⟨b6,off6,none⟩)) w:=fun w=>by
   have:=vb7 (c:=c6) (off:=off6) Tryz.underlying39 kjb7 (a:=some ⟨b6,off6,none⟩) rfl (k:=0) (n:=1) (by decide) w
   simpa using this
  have k0:w3.cell? ⟨b6,off6,none⟩=some (.int .i64 7):=by simpa using HK0.out
  have k1:w3.cell? ⟨b6,off6+1,none⟩=some (.slice a7 1 c7):=by simpa using HK1.out
  obtain⟨x0,x1⟩:=gf7 HX3.out
  have hal:Below w3.heap.size w3 (w3.alloc (.cells #[.int .i64 9] 2)):=(Below.refl _ _).alloc (Nat.le_refl _) _
  have HL:=hid (show (ia7 hf7).rep (w3.alloc (.cells #[.int .i64 9] 2)) (fun _=>True) [9] [.slice (some ⟨w3.heap.size,0,none⟩) 1 1] from iyb7 (S:=hf7) ⟨rfl,by unfold za7;decide⟩ (Row.new (cs:=[.int .i64 9]) rfl) trivial)
  go_wp2_with fail
  refine (ubb7 ((ia7 hf7).below HKR.out hal) HL.out).mono ?_
  rintro e w4 ⟨rfl,hdr⟩
  have hb4:Below w3.heap.size w3 w4:=by
   obtain⟨n,rfl⟩:=hdr
   exact below_drewN hal n
  have HR4:=hid (HR3.out.below hb4)
  have HP4:=hid (HP3.out.below hb4)
  have HB4:=hid (ca7 HB3.out hb4)
  have HI4:=hid (kb7.below HI3.out hb4)
  have HPl4:=hid (wd7.below HPl3.out hb4)
  have HT4:=hid (ng7.below HT3.out hb4)
  have HX4:=hid (HX3.out.below hb4)
  clear HR3 HP3 HB3 HI3 HPl3 HT3 HX3 HL HK0 HK1 HKR k0 k1 x0 x1 hal hdr hb4 hix
  rw[show decide (([⟨7,[9],10⟩]:List qa7)[0].starts=[9])=true from by decide]
  obtain⟨q0,q1,q2,q3,q4,q5,q6,q7,q8⟩:=wh7 HR4.out
  obtain⟨p0,p1⟩:=gf7 HP4.out
  obtain⟨x0,x1⟩:=gf7 HX4.out
  go_wp2_with fail
  have hC:=qm7 HI4.out HPl4.out HT4.out (fun _=>rdb7) (by unfold bd7;decide)
  rw[show (⟨[[⟨0,2⟩]],[⟨0,[0]⟩]⟩:ab7)=ie7 from rfl,← sic7,tsb7]at hC
  refine hC.mono ?_
  clear hC
  rintro e w5 ⟨rfl,hb5⟩
  have HB5:=hid (ca7 HB4.out hb5)
  clear q0 q1 q2 q3 q4 q5 q6 q7 q8 p0 p1 x0 x1 HR4 HP4 HB4 HI4 HPl4 HT4 HX4 hb5
  go_wp2_with fail
  refine (sub7 _).mono ?_
  rintro e w6 ⟨rfl,hb6⟩
  have HB6:=hid (ca7 HB5.out hb6)
  clear HB5 hb6
  go_wp2
  go_ret
  exact⟨rfl,HB6.out⟩
end Go.Proofs.YtabadfkikdefeaaGreat
