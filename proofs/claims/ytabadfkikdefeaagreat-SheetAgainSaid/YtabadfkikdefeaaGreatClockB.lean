/- clock.bike: what it answers. -/
import Derived.Test.YtabadfkikdefeaaGreatClockT
set_option linter.all false
set_option maxRecDepth 100000
set_option maxHeartbeats 6400000
namespace Go.Proofs.YtabadfkikdefeaaGreat
open Go.RowKit
structure qwb7 (x:ba7) (st:BkS):Prop where
 now:0≤st.now∧st.now≤2000000000
 node:0≤st.node∧st.node<nodes x
theorem qwb7.step {x:ba7}(gd:Good x) {st st':BkS}{c v:Int}(hc:gg7 x c) (he:alb7 x st c v=some st'):qwb7 x st':=by
 unfold alb7 sx7 at he
 split at he
 ·rename_i hb
  cases he
  simp only[Bool.and_eq_true,decide_eq_true_eq]at hb
  have h2:=ju7 gd hc
  have h5:=gd.fin
  have h6:=hc
  unfold gg7 at h6
  refine⟨by show 0≤v+(vd7 x c).stay∧v+(vd7 x c).stay≤2000000000;omega,by show 0≤1+(x.sats.length:Int)+c∧1+(x.sats.length:Int)+c<(nodes x:Int);unfold nodes;omega⟩
 ·cases he
theorem ntb7 {x:ba7}(gd:Good x) {b:ga7}{r:qa7}(hb:ko7 x b) (hr:0≤r.out∧r.out≤x.fin):∀j,j≤b.stops.length→∀st,mj7 x b r j=some st→qwb7 x st
 | 0,_,st,h=>by
  cases h
  have h5:=gd.fin
  have h6:=hb.1
  exact⟨by show 0≤r.out∧r.out≤2000000000;omega,by show 0≤1+b.sat∧1+b.sat<(nodes x:Int);unfold nodes;omega⟩
 | j+1,hj,st,h=>by
  simp only[mj7]at h
  cases hk:mj7 x b r j with
  | none=>rw[hk]at h;cases h
  | some q =>
   rw[hk,Option.bind_some,List.getD_eq_getElem?_getD,List.getElem?_eq_getElem (show j<b.stops.length by omega)]at h
   exact qwb7.step gd (hb.2.2 _ (List.getElem_mem _)) h
structure BSt (w0:World) (qi qb qr:Nat) (ic bc rc:List Value) (w:World):Prop where
 inst:Row w qi 57 ic
 bike:Row w qb 70 bc
 ride:Row w qr 136 rc
 bel:Below w0.heap.size w0 w
section
variable {w0 w w':World} {qi qb qr:Nat} {ic bc rc:List Value}
theorem BSt.below (h:BSt w0 qi qb qr ic bc rc w) (hb:Below w.heap.size w w'):BSt w0 qi qb qr ic bc rc w':=⟨h.inst.below hb,h.bike.below hb,h.ride.below hb,ca7 h.bel hb⟩
theorem BSt.start (w:World) (ic bc rc:List Value):BSt w w.heap.size (w.heap.size+1) (w.heap.size+1+1) ic bc rc
  (((w.alloc (.cells ic.toArray 57)).alloc (.cells bc.toArray 70)).alloc (.cells rc.toArray 136)):=by
 have h0:=FSt.start w 57 70 ic bc
 have h3:=Row.new (w:=(w.alloc (.cells ic.toArray 57)).alloc (.cells bc.toArray 70)) (e:=136) (cs:=rc) rfl
 rw[show ((w.alloc (.cells ic.toArray 57)).alloc (.cells bc.toArray 70)).heap.size=w.heap.size+1+1 by simp]at h3
 have hb:Below _ _ (((w.alloc (.cells ic.toArray 57)).alloc (.cells bc.toArray 70)).alloc (.cells rc.toArray 136)):=(Below.refl _ _).alloc (Nat.le_refl _) _
 have h1:=h0.below hb
 exact⟨h1.one,h1.two,h3,h1.bel⟩
end
theorem nic7 {w:World}{g:Nat}{e:TypeId}{v0 v1 v2:Value}(h:Row w g e [v0,v1,v2]):w.cell? ⟨g,0,none⟩=some v0∧w.cell? ⟨g,1,none⟩=some v1∧w.cell? ⟨g,2,none⟩=some v2 :=
 ⟨h.cell (j:=0) (by simp),h.cell (j:=1) (by simp),h.cell (j:=2) (by simp)⟩
theorem anc7 {w:World}{g:Nat}{e:TypeId}{v0 v1 v2 v3:Value}(h:Row w g e [v0,v1,v2,v3]):w.cell? ⟨g,0,none⟩=some v0∧w.cell? ⟨g,1,none⟩=some v1∧w.cell? ⟨g,2,none⟩=some v2∧w.cell? ⟨g,3,none⟩=some v3 :=
 ⟨h.cell (j:=0) (by simp),h.cell (j:=1) (by simp),h.cell (j:=2) (by simp),h.cell (j:=3) (by simp)⟩
theorem yic7 {w:World}{F G H:Nat→Prop}{x:ba7}{b:ga7}{r:qa7}{ready:List Int}{cs bc rc:List Value}{gr:Nat}(h:kb7.rep w F x cs) (gd:Good x) (hb:cq7.rep w G b bc) (hbok:ko7 x b) (hbl:b.stops.length≤60)
  (hr:iy7.rep w H r rc) (hrl:r.starts.length=b.stops.length) (hrow:Row w gr 2 (ready.map ib7)) (hrdl:ready.length=x.sats.length) (hrB:∀v∈ready,0≤v∧v≤2000000000) :
  Calls Tryz.prog 174 #[.agg cs.toArray,.agg bc.toArray,.agg rc.toArray,.slice (some ⟨gr,0,none⟩) x.sats.length x.sats.length] w fun e w'=>e = .returned (.bool (tgb7 x b r ready))∧Below w.heap.size w w':=by
 have hrep:=h
 obtain⟨s,c,co,ti,rfl,-,-,h2,-,h7⟩:=h
 obtain⟨a',b',off',c1',hs',hlc',hc',ha',-,hcell',-⟩:=dh7 h2
 obtain rfl:=List.cons.inj hs' |>.1
 obtain⟨b7,off7,c7,hs7,htime⟩:=tv7 h7 gd
 obtain rfl:=List.cons.inj hs7 |>.1
 obtain⟨v3,rfl,-,h3⟩:=hb
 obtain⟨a3,b3,off3,c3,hs3,hl3,hc3,ha3,-,hcell3,-⟩:=bb7 h3
 obtain rfl:=List.cons.inj hs3 |>.1
 obtain⟨v5,rfl,-,-,h5⟩:=hr
 obtain⟨a5,b5,off5,c5,hs5,hl5,hc5,ha5,-,hcell5,-⟩:=bb7 h5
 obtain rfl:=List.cons.inj hs5 |>.1
 rw[hrl]at hl5 ha5 ⊢
 have HCELL:=hid hcell'
 have HTIME:=hid htime
 have HCELL3:=hid hcell3
 have HCELL5:=hid hcell5
 have HREP:=hid hrep
 have HBOK:=hid hbok
 have HLL:=hid hrl
 have GD:=hid gd
 have HROW:=hid hrow
 have hss:=gd.sats
 have hcc:=gd.custs
 have hff:=gd.fin
 have hsat:=hbok.1
 have hsm:x.sats.length≤1000000:=by omega
 have hrdS:b.sat.toNat<ready.length:=by omega
 have hrgb:0≤ready.getD b.sat.toNat 0∧ready.getD b.sat.toNat 0≤2000000000:=by
  rw[List.getD_eq_getElem?_getD,List.getElem?_eq_getElem hrdS];exact hrB _ (List.getElem_mem hrdS)
 have hre:ready[b.sat.toNat]'hrdS=ready.getD b.sat.toNat 0:=by rw[List.getD_eq_getElem?_getD,List.getElem?_eq_getElem hrdS];rfl
 have cr0:=hrow.cell (j:=b.sat.toNat) (by rw[List.length_map];exact hrdS)
 rw[List.getElem_map,hre]at cr0
 unfold ib7 at cr0
 obtain⟨rv,hrv⟩:∃v,v=ready.getD b.sat.toNat 0:=⟨_,rfl⟩
 rw[← hrv]at cr0 hrgb
 have HUP:=hid (fun (ho:0≤r.out∧r.out≤x.fin) j hj st hs=>ntb7 gd hbok ho j hj st hs)
 have HBC:=hid (show tgb7 x b r ready=(sx7 r.out rv x.fin&&match mj7 x b r b.stops.length with | none=>false | some st=>sx7 r.back (st.now+cb7 x st.node (1+b.sat)) x.fin) from by rw[hrv];rfl)
 obtain⟨ic,hic⟩:∃ic:List Value,ic=[.int .i64 x.fin,.int .i64 x.tmany,.int .i64 x.troom,.int .i64 x.bmany,.int .i64 x.broom,s,.slice a' x.custs.length c1',co,.slice (some ⟨b7,off7,none⟩) (nodes x) c7]:=⟨_,rfl⟩
 have hs0:=BSt.start w ic [.int .i64 b.sat,.slice a3 b.stops.length c3] [.int .i64 r.out,.slice a5 b.stops.length c5,.int .i64 r.back]
 rw[hic]at hs0
 go_enter Tryz.func174,Tryz.ntmps174
 go_upto_region 1 with fail
 generalize ((w.alloc (.cells #[.int .i64 x.fin,.int .i64 x.tmany,.int .i64 x.troom,.int .i64 x.bmany,.int .i64 x.broom,s,.slice a' x.custs.length c1',co,.slice (some ⟨b7,off7,none⟩) (nodes x) c7] 57)).alloc (.cells #[.int .i64 b.sat,.slice a3 b.stops.length c3] 70)).alloc
  (.cells #[.int .i64 r.out,.slice a5 b.stops.length c5,.int .i64 r.back] 136)=w1 at hs0 ⊢
 obtain⟨qi,hqi⟩:∃q,q=w.heap.size:=⟨_,rfl⟩
 rw[← hqi]at hs0 ⊢
 obtain⟨qb,hqb⟩:∃q,q=qi+1:=⟨_,rfl⟩
 rw[← hqb]at hs0 ⊢
 obtain⟨qr,hqr⟩:∃q,q=qb+1:=⟨_,rfl⟩
 rw[← hqr]at hs0 ⊢
 rw[← hic]at hs0
 have HS1:=hid hs0
 have HIC:=hid hic
 have RI:=hs0.inst
 rw[hic]at RI
 obtain⟨q0,q1,q2,q3,q4,q5,q6,q7,q8⟩:=wh7 RI
 obtain⟨k0,k1⟩:=gf7 hs0.bike
 obtain⟨r0,r1,r2⟩:=nic7 hs0.ride
 have cr1:=aa7 hs0.bel cr0
 have ir:=ka7 (c:=x.sats.length) Tryz.underlying78 qc7 (a:=some ⟨gr,0,none⟩) rfl (k:=b.sat.toNat) (n:=x.sats.length) (by omega)
 rw[Int.toNat_of_nonneg hsat.1,Nat.zero_add]at ir
 clear hs' hs7 hs3 hs5 h2 h7 h3 h5 hcell' htime hcell3 hcell5 hrep hbok hrl gd hrow hs0 hic hqi hqb hqr RI hre hrv hrB hrdS
 go_wp2
 have z0:∀e:At (Old w1),_:=fun e=>e.cell q0
 have zk0:∀e:At (Old w1),_:=fun e=>e.cell k0
 have zr0:∀e:At (Old w1),_:=fun e=>e.cell r0
 have zc:∀e:At (Old w1),_:=fun e=>e.cell cr1
 refine ma7 (Old w1) [10] [([0,1,2,3,4,5,6,7,8],9,false),([],10,true)] (by kernel_rfl) (by kernel_rfl) (fun _ _ d _ _ h=>by cases d <;> exact h) (Old.drew _) ?_
 simp only[gd7,List.map_cons,List.map_nil,Array.getD_eq_getD_getElem?,List.getElem?_toArray,List.getElem?_cons_succ,List.getElem?_cons_zero,Option.getD_some,me7]
 repeat (go_big_quiet_step (fail))
 refine wpQuiet_nil ?_
 go_wp2_with fail
 refine (pp7 _ _ _).mono ?_
 rintro e w2 ⟨rfl,hb2⟩
 have hO2:=(Old.drew w1).step hb2
 have HOUT:=hid (show sx7 r.out rv x.fin=true→0≤r.out∧r.out≤x.fin from fun h=>by
  simp only[sx7,Bool.and_eq_true,decide_eq_true_eq]at h;omega)
 obtain⟨bv,hbv⟩:∃bv,bv=sx7 r.out rv x.fin:=⟨_,rfl⟩
 rw[← hbv]at HOUT HBC ⊢
 have HS2:=hid (HS1.out.below hO2)
 clear hbv HS1 q0 q1 q2 q3 q4 q5 q6 q7 q8 k0 k1 r0 r1 r2 cr1 ir z0 zk0 zr0 zc hb2
 go_wp2_with fail
 refine⟨hO2,wpQuiet_nil ?_⟩
 cases bv
 ·as_aux_lemma =>
   go_wp2
   go_ret
   exact⟨rb7 (by rw[HBC.out];rfl),HS2.out.bel⟩
 ·clear hO2
  have hout:=HOUT.out rfl
  go_upto_region 3 with fail
  have RI:=HS2.out.inst
  rw[HIC.out]at RI
  obtain⟨q0,q1,q2,q3,q4,q5,q6,q7,q8⟩:=wh7 RI
  obtain⟨k0,k1⟩:=gf7 HS2.out.bike
  obtain⟨r0,r1,r2⟩:=nic7 HS2.out.ride
  have HINS:=hid (kb7.below HREP.out HS2.out.bel)
  clear RI
  go_wp2
  have z0:∀e:At (Old w2),_:=fun e=>e.cell q0
  have z1:∀e:At (Old w2),_:=fun e=>e.cell q1
  have z2:∀e:At (Old w2),_:=fun e=>e.cell q2
  have z3:∀e:At (Old w2),_:=fun e=>e.cell q3
  have z4:∀e:At (Old w2),_:=fun e=>e.cell q4
  have z5:∀e:At (Old w2),_:=fun e=>e.cell q5
  have z6:∀e:At (Old w2),_:=fun e=>e.cell q6
  have z7:∀e:At (Old w2),_:=fun e=>e.cell q7
  have z8:∀e:At (Old w2),_:=fun e=>e.cell q8
  have zk:∀e:At (Old w2),_:=fun e=>e.cell k0
  have zr:∀e:At (Old w2),_:=fun e=>e.cell r0
  refine ma7 (Old w2) [7] [([0,1,2,3,4],5,false),([],6,false),([],7,true)] (by kernel_rfl) (by kernel_rfl) (fun _ _ d _ _ h=>by cases d <;> exact h) (Old.drew _) ?_
  simp only[gd7,List.map_cons,List.map_nil,Array.getD_eq_getD_getElem?,List.getElem?_toArray,List.getElem?_cons_succ,List.getElem?_cons_zero,Option.getD_some,me7]
  repeat (go_big_quiet_step (fail))
  refine wpQuiet_nil ?_
  have hO0:=Old.drew w2
  go_wp2_with fail
  refine (ve7 (kb7.below HINS.out hO0) (by omega)).mono ?_
  rintro e w3 ⟨rfl,hb3⟩
  have hO3:=hO0.step hb3
  have HS3:=hid (HS2.out.below hO3)
  go_wp2_with fail
  refine⟨hO3,wpQuiet_nil ?_⟩
  go_wp2_with fail
  refine⟨hO3,wpQuiet_nil ?_⟩
  clear HS2 q0 q1 q2 q3 q4 q5 q6 q7 q8 k0 k1 r0 r1 r2 z0 z1 z2 z3 z4 z5 z6 z7 z8 zk zr HINS hO0 hb3 hO3
  go_upto_region 4 with fail
  obtain⟨k0,k1⟩:=gf7 HS3.out.bike
  go_wp2
  go_loopw [9,10,34] (fun nv dv kv wr=>∃(k:Nat) (st:BkS),k≤b.stops.length∧kv = .int .i64 k∧mj7 x b r k=some st∧nv = .int .i64 st.now∧dv = .int .i64 st.node∧BSt w qi qb qr ic [.int .i64 b.sat,.slice a3 b.stops.length c3] [.int .i64 r.out,.slice a5 b.stops.length c5,.int .i64 r.back] wr) (fun _ _ kv _=>b.stops.length-(intOf kv).toNat)
  case atStart=>exact⟨0,_,Nat.zero_le _,rfl,rfl,rfl,rfl,HS3.out⟩
  case round =>
   clear k0 k1 HS3
   obtain⟨k,st,hk,rfl,hup,rfl,rfl,hst⟩:=hrel
   obtain⟨wo,rfl⟩:∃wo:World,wo=wr:=⟨_,rfl⟩
   have hok:=HUP.out hout k hk st hup
   have hnow:=hok.now
   have hnd:=hok.node
   by_cases hlt:k<b.stops.length
   ·
    as_aux_lemma =>
     have hy:=ka7 (c:=c3) Tryz.underlying68 di7 (ha3 (by omega)) hlt
     have hyl:=ka7 (c:=c5) Tryz.underlying78 qc7 (ha5 (by omega)) hlt
     have hll:k<r.starts.length:=by rw[HLL.out];exact hlt
     have g3:=aa7 hst.bel (HCELL3.out k hlt)
     have HGL:=hid (HCELL5.out k hll)
     have hco:=HBOK.out.2.2 _ (List.getElem_mem hlt)
     have HNX:=hid (show mj7 x b r (k+1)=alb7 x st b.stops[k] r.starts[k] from by
      simp only[mj7]
      rw[hup,Option.bind_some,List.getD_eq_getElem?_getD,List.getD_eq_getElem?_getD,List.getElem?_eq_getElem hlt,List.getElem?_eq_getElem hll];rfl)
     obtain⟨cu,hcu⟩:∃v,v=b.stops[k]:=⟨_,rfl⟩
     obtain⟨sv,hsv⟩:∃v,v=r.starts[k]:=⟨_,rfl⟩
     rw[← hcu]at g3 HNX hco
     rw[← hsv]at HGL HNX
     have hcb:=ju7 GD.out hco
     have hco2:=hco
     unfold gg7 at hco2
     have hcl:cu.toNat<x.custs.length:=by omega
     obtain⟨k0,k1,k2,k3⟩:=HCELL.out cu.toNat hcl
     have hcd:vd7 x cu=x.custs[cu.toNat]:=by unfold vd7;rw[List.getD_eq_getElem?_getD,List.getElem?_eq_getElem hcl];rfl
     rw[← hcd]at k0 k1 k2 k3
     have HNX2:=hid (show ∀cc,cc=vd7 x cu→mj7 x b r (k+1)=if sx7 sv (max cc.opn (st.now+cb7 x st.node (1+x.sats.length+cu))) (min cc.cls x.fin)=true then some ⟨sv+cc.stay,1+x.sats.length+cu⟩ else none from fun cc h=>by rw[h,HNX.out];rfl)
     obtain⟨cc,hcc2⟩:∃cc,cc=vd7 x cu:=⟨_,rfl⟩
     have HN3:=hid (HNX2.out cc hcc2)
     rw[← hcc2]at k0 k1 k2 k3 hcb
     obtain⟨cl,cop,ccl,cst⟩:=cc
     simp only[]at k0 k1 k2 k3 hcb
     have o0:=aa7 hst.bel k0
     have o1:=aa7 hst.bel k1
     have o2:=aa7 hst.bel k2
     have o3:=aa7 hst.bel k3
     have ic2:=vb7 (c:=c1') Tryz.underlying55 cs7 (ha' (by omega)) hcl
     rw[Int.toNat_of_nonneg hco2.1]at ic2
     have RI:=hst.inst
     rw[HIC.out]at RI
     obtain⟨q0,q1,q2,q3,q4,q5,q6,q7,q8⟩:=wh7 RI
     have hal:Below wo.heap.size wo (wo.alloc (.cells #[.int .i64 cl,.int .i64 cop,.int .i64 ccl,.int .i64 cst] 167)):=(Below.refl _ _).alloc (Nat.le_refl _) _
     have HS4:=hid (hst.below hal)
     have HC4:=hid (Row.new (w:=wo) (g:=wo.heap.size) (e:=167) (cs:=[.int .i64 cl,.int .i64 cop,.int .i64 ccl,.int .i64 cst]) rfl)
     obtain⟨X,hX⟩:∃X,X=wo.heap.size:=⟨_,rfl⟩
     rw[← hX]at HC4
     clear hcu hsv hco hcd hcc2 hst hup hal hok RI k0 k1 k2 k3 HNX HNX2
     go_upto_region 8 with fail
     rw[← hX]
     generalize wo.alloc (.cells #[.int .i64 cl,.int .i64 cop,.int .i64 ccl,.int .i64 cst] 167)=w4 at HS4 HC4 ⊢
     clear hX g3 q0 q1 q2 q3 q4 q5 q6 q7 q8 o0 o1 o2 o3
     have hB4:=HS4.out.bel
     have HINS:=hid (kb7.below HREP.out hB4)
     have RI:=HS4.out.inst
     rw[HIC.out]at RI
     obtain⟨q0,q1,q2,q3,q4,q5,q6,q7,q8⟩:=wh7 RI
     obtain⟨r0,r1,r2⟩:=nic7 HS4.out.ride
     obtain⟨d0,d1,d2,d3⟩:=anc7 HC4.out
     have gl:=aa7 hB4 HGL.out
     have hcn:(1+x.sats.length+cu).toNat<nodes x:=by unfold nodes;omega
     have hcn0:(0:Int)≤1+x.sats.length+cu:=by omega
     obtain⟨br,orr,cr,t0,tc⟩:=HTIME.out st.node.toNat (by omega)
     have t1:=aa7 hB4 t0
     have t2:=aa7 hB4 (tc (1+x.sats.length+cu).toNat hcn)
     rw[Int.toNat_of_nonneg hcn0,Int.toNat_of_nonneg hnd.1]at t2
     have it0:=ka7 (c:=c7) Tryz.underlying38 ah7 (a:=some ⟨b7,off7,none⟩) rfl (k:=st.node.toNat) (n:=nodes x) (by omega)
     rw[Int.toNat_of_nonneg hnd.1]at it0
     have it1:=ka7 (c:=cr) Tryz.underlying78 qc7 (a:=some ⟨br,orr,none⟩) rfl hcn
     rw[Int.toNat_of_nonneg hcn0]at it1
     have htb:=md7 GD.out st.node (1+x.sats.length+cu)
     obtain⟨tv,htv⟩:∃tv,tv=cb7 x st.node (1+x.sats.length+cu):=⟨_,rfl⟩
     rw[← htv]at t2 htb HN3
     clear tc htv t0 RI
     go_wp2
     have z0:∀e:At (Old w4),_:=fun e=>e.cell q0
     have z1:∀e:At (Old w4),_:=fun e=>e.cell q1
     have z2:∀e:At (Old w4),_:=fun e=>e.cell q2
     have z3:∀e:At (Old w4),_:=fun e=>e.cell q3
     have z4:∀e:At (Old w4),_:=fun e=>e.cell q4
     have z5:∀e:At (Old w4),_:=fun e=>e.cell q5
     have z6:∀e:At (Old w4),_:=fun e=>e.cell q6
     have z7:∀e:At (Old w4),_:=fun e=>e.cell q7
     have z8:∀e:At (Old w4),_:=fun e=>e.cell q8
     have za:∀e:At (Old w4),_:=fun e=>e.cell t1
     have zb:∀e:At (Old w4),_:=fun e=>e.cell t2
     have zr:∀e:At (Old w4),_:=fun e=>e.cell r1
     have zd0:∀e:At (Old w4),_:=fun e=>e.cell d0
     have zd1:∀e:At (Old w4),_:=fun e=>e.cell d1
     have zd2:∀e:At (Old w4),_:=fun e=>e.cell d2
     have zl:∀e:At (Old w4),_:=fun e=>e.cell gl
     refine ma7 (Old w4) [26] [([0,1,2,3,4,5,6,7,8,9,10,11,12,13,14,20,21,22,23,24],15,false),([16,17,18,19],25,false),([],26,true)] (by kernel_rfl) (by kernel_rfl) (fun _ _ d _ _ h=>by cases d <;> exact h) (Old.drew _) ?_
     simp only[gd7,List.map_cons,List.map_nil,Array.getD_eq_getD_getElem?,List.getElem?_toArray,List.getElem?_cons_succ,List.getElem?_cons_zero,Option.getD_some,me7]
     repeat (go_big_quiet_step (fail))
     refine wpQuiet_nil ?_
     have hO0:=Old.drew w4
     go_wp2_with fail
     refine (vk7 (kb7.below HINS.out hO0) hsm (by omega)).mono ?_
     rintro e w5 ⟨rfl,hb5⟩
     have hO5:=hO0.step hb5
     go_wp2_with fail
     refine⟨hO5, ?_⟩
     repeat (go_big_quiet_step (fail))
     refine wpQuiet_nil ?_
     go_wp2_with fail
     refine (pp7 _ _ _).mono ?_
     rintro e w6 ⟨rfl,hb6⟩
     have hO6:=hO5.step hb6
     have HV:=hid (show sx7 sv (max cop (st.now+tv)) (min ccl x.fin)=true→0≤sv∧sv≤x.fin from fun h=>by
      simp only[sx7,Bool.and_eq_true,decide_eq_true_eq]at h;omega)
     obtain⟨bv,hbv⟩:∃bv,bv=sx7 sv (max cop (st.now+tv)) (min ccl x.fin):=⟨_,rfl⟩
     rw[← hbv]at HN3 HV ⊢
     have HS6:=hid (HS4.out.below hO6)
     have HC6:=hid (HC4.out.below hO6)
     clear hbv HS4 HC4 q0 q1 q2 q3 q4 q5 q6 q7 q8 r0 r1 r2 d0 d1 d2 d3 gl t1 t2 it0 it1 z0 z1 z2 z3 z4 z5 z6 z7 z8 za zb zr zd0 zd1 zd2 zl HINS hO0 hO5 hb5 hb6 hB4
     go_wp2_with fail
     refine⟨hO6,wpQuiet_nil ?_⟩
     cases bv
     ·as_aux_lemma =>
       have hn:mj7 x b r (k+1)=none:=by rw[HN3.out];rfl
       have hf:=qv7 hn (b.stops.length-(k+1))
       rw[show k+1+(b.stops.length-(k+1))=b.stops.length by omega]at hf
       have HN:=hid (show tgb7 x b r ready=false from by rw[HBC.out,hf];rfl)
       clear hn hf
       go_wp2
       go_ret
       exact⟨rb7 HN.out.symm,HS6.out.bel⟩
     ·as_aux_lemma =>
       have hsv:=HV.out rfl
       go_upto_region 10 with fail
       have hB6:=HS6.out.bel
       have HINS:=hid (kb7.below HREP.out hB6)
       have RI:=HS6.out.inst
       rw[HIC.out]at RI
       obtain⟨q0,q1,q2,q3,q4,q5,q6,q7,q8⟩:=wh7 RI
       obtain⟨r0,r1,r2⟩:=nic7 HS6.out.ride
       obtain⟨d0,d1,d2,d3⟩:=anc7 HC6.out
       have gl:=aa7 hB6 HGL.out
       clear RI
       go_wp2
       have z0:∀e:At (Old w6),_:=fun e=>e.cell q0
       have z1:∀e:At (Old w6),_:=fun e=>e.cell q1
       have z2:∀e:At (Old w6),_:=fun e=>e.cell q2
       have z3:∀e:At (Old w6),_:=fun e=>e.cell q3
       have z4:∀e:At (Old w6),_:=fun e=>e.cell q4
       have z5:∀e:At (Old w6),_:=fun e=>e.cell q5
       have z6:∀e:At (Old w6),_:=fun e=>e.cell q6
       have z7:∀e:At (Old w6),_:=fun e=>e.cell q7
       have z8:∀e:At (Old w6),_:=fun e=>e.cell q8
       have zr:∀e:At (Old w6),_:=fun e=>e.cell r1
       have zd3:∀e:At (Old w6),_:=fun e=>e.cell d3
       have zl:∀e:At (Old w6),_:=fun e=>e.cell gl
       refine ma7 (Old w6) [12] [([0,1,2,3,4,5,6,7,8,9],10,false),([],11,false),([],12,true)] (by kernel_rfl) (by kernel_rfl) (fun _ _ d _ _ h=>by cases d <;> exact h) (Old.drew _) ?_
       simp only[gd7,List.map_cons,List.map_nil,Array.getD_eq_getD_getElem?,List.getElem?_toArray,List.getElem?_cons_succ,List.getElem?_cons_zero,Option.getD_some,me7]
       repeat (go_big_quiet_step (fail))
       refine wpQuiet_nil ?_
       have hO0:=Old.drew w6
       go_wp2_with fail
       refine (vk7 (kb7.below HINS.out hO0) hsm (by omega)).mono ?_
       rintro e w7 ⟨rfl,hb7⟩
       have hO7:=hO0.step hb7
       have HS7:=hid (HS6.out.below hO7)
       go_wp2_with fail
       refine⟨hO7,wpQuiet_nil ?_⟩
       go_wp2_with fail
       refine⟨hO7,wpQuiet_nil ?_⟩
       clear z0 z1 z2 z3 z4 z5 z6 z7 z8 zr zd3 zl q0 q1 q2 q3 q4 q5 q6 q7 q8 r0 r1 r2 d0 d1 d2 d3 gl hB6 HINS hO0 hO7 hb7
       go_wp2
       go_roundw
       case rel=>exact⟨k+1,⟨sv+cst,1+x.sats.length+cu⟩,by omega,by go_num,by rw[HN3.out];rfl,rfl,rfl,HS7.out⟩
       case measure=>simp[intOf];omega
   ·as_aux_lemma =>
     obtain rfl:k=b.stops.length:=by omega
     have hB4:=hst.bel
     have HS4:=hid hst
     have HINS:=hid (kb7.below HREP.out hB4)
     have RI:=hst.inst
     rw[HIC.out]at RI
     obtain⟨wq,rfl⟩:∃wq:World,wq=wo:=⟨_,rfl⟩
     obtain⟨q0,q1,q2,q3,q4,q5,q6,q7,q8⟩:=wh7 RI
     obtain⟨k0,k1⟩:=gf7 hst.bike
     obtain⟨r0,r1,r2⟩:=nic7 hst.ride
     have hcn:(1+b.sat).toNat<nodes x:=by unfold nodes;omega
     have hcn0:(0:Int)≤1+b.sat:=by omega
     obtain⟨br,orr,cr,t0,tc⟩:=HTIME.out st.node.toNat (by omega)
     have t1:=aa7 hB4 t0
     have t2:=aa7 hB4 (tc (1+b.sat).toNat hcn)
     rw[Int.toNat_of_nonneg hcn0,Int.toNat_of_nonneg hnd.1]at t2
     have it0:=ka7 (c:=c7) Tryz.underlying38 ah7 (a:=some ⟨b7,off7,none⟩) rfl (k:=st.node.toNat) (n:=nodes x) (by omega)
     rw[Int.toNat_of_nonneg hnd.1]at it0
     have it1:=ka7 (c:=cr) Tryz.underlying78 qc7 (a:=some ⟨br,orr,none⟩) rfl hcn
     rw[Int.toNat_of_nonneg hcn0]at it1
     have htb:=md7 GD.out st.node (1+b.sat)
     obtain⟨tv,htv⟩:∃tv,tv=cb7 x st.node (1+b.sat):=⟨_,rfl⟩
     rw[← htv]at t2 htb
     have HTV:=hid htv
     have HE:=hid (show tgb7 x b r ready=sx7 r.back (st.now+tv) x.fin from by rw[HBC.out,hup,HTV.out];rfl)
     clear tc htv t0 RI hst hup hok
     go_wp2
     have z0:∀e:At (Old wq),_:=fun e=>e.cell q0
     have z1:∀e:At (Old wq),_:=fun e=>e.cell q1
     have z2:∀e:At (Old wq),_:=fun e=>e.cell q2
     have z3:∀e:At (Old wq),_:=fun e=>e.cell q3
     have z4:∀e:At (Old wq),_:=fun e=>e.cell q4
     have z5:∀e:At (Old wq),_:=fun e=>e.cell q5
     have z6:∀e:At (Old wq),_:=fun e=>e.cell q6
     have z7:∀e:At (Old wq),_:=fun e=>e.cell q7
     have z8:∀e:At (Old wq),_:=fun e=>e.cell q8
     have za:∀e:At (Old wq),_:=fun e=>e.cell t1
     have zb:∀e:At (Old wq),_:=fun e=>e.cell t2
     have zk:∀e:At (Old wq),_:=fun e=>e.cell k0
     have zr:∀e:At (Old wq),_:=fun e=>e.cell r2
     refine ma7 (Old wq) [18] [([0,1,2,3,4,5,6,7,8,9,10,15,16],11,false),([12,13,14],17,false),([],18,true)] (by kernel_rfl) (by kernel_rfl) (fun _ _ d _ _ h=>by cases d <;> exact h) (Old.drew _) ?_
     simp only[gd7,List.map_cons,List.map_nil,Array.getD_eq_getD_getElem?,List.getElem?_toArray,List.getElem?_cons_succ,List.getElem?_cons_zero,Option.getD_some,me7]
     repeat (go_big_quiet_step (fail))
     refine wpQuiet_nil ?_
     have hO0:=Old.drew wq
     go_wp2_with fail
     refine (ve7 (kb7.below HINS.out hO0) (by omega)).mono ?_
     rintro e w5 ⟨rfl,hb5⟩
     have hO5:=hO0.step hb5
     go_wp2_with fail
     refine⟨hO5, ?_⟩
     repeat (go_big_quiet_step (fail))
     refine wpQuiet_nil ?_
     go_wp2_with fail
     refine (pp7 _ _ _).mono ?_
     rintro e w6 ⟨rfl,hb6⟩
     have hO6:=hO5.step hb6
     go_wp2_with fail
     refine⟨hO6,wpQuiet_nil ?_⟩
     go_wp2
     go_ret
     exact⟨rb7 HE.out.symm,(HS4.out.below hO6).bel⟩
end Go.Proofs.YtabadfkikdefeaaGreat
