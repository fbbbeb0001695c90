/- clock.Check. -/
import Derived.Test.YtabadfkikdefeaaGreatClockB
set_option linter.all false
set_option maxRecDepth 100000
set_option maxHeartbeats 6400000
namespace Go.Proofs.YtabadfkikdefeaaGreat
open Go.RowKit
structure vpb7 (w0:World) (qi qp qt:Nat) (ic pc tc:List Value) (w:World):Prop where
 inst:Row w qi 57 ic
 plan:Row w qp 37 pc
 tms:Row w qt 41 tc
 mu:Mut rts w0.heap.size w0 w
 le:w0.heap.size≤w.heap.size
section
variable {w0 w w':World} {qi qp qt:Nat} {ic pc tc:List Value}
theorem vpb7.below (h:vpb7 w0 qi qp qt ic pc tc w) (hb:Below w.heap.size w w'):vpb7 w0 qi qp qt ic pc tc w' :=
 ⟨h.inst.below hb,h.plan.below hb,h.tms.below hb,h.mu.trans (Mut.below hb h.le),Nat.le_trans h.le hb.size⟩
theorem vpb7.move (h:vpb7 w0 qi qp qt ic pc tc w) (hm:Mut rts w0.heap.size w w'):vpb7 w0 qi qp qt ic pc tc w' :=
 ⟨hm.row h.inst (by decide),hm.row h.plan (by decide),hm.row h.tms (by decide),h.mu.trans hm,Nat.le_trans h.le hm.bel.size⟩
theorem vpb7.start (w:World) (ic pc tc:List Value):vpb7 w w.heap.size (w.heap.size+1) (w.heap.size+1+1) ic pc tc
  (((w.alloc (.cells ic.toArray 57)).alloc (.cells pc.toArray 37)).alloc (.cells tc.toArray 41)):=by
 have h0:=FSt.start w 57 37 ic pc
 have h3:=Row.new (w:=(w.alloc (.cells ic.toArray 57)).alloc (.cells pc.toArray 37)) (e:=41) (cs:=tc) rfl
 rw[show ((w.alloc (.cells ic.toArray 57)).alloc (.cells pc.toArray 37)).heap.size=w.heap.size+1+1 by simp]at h3
 have hb:Below _ _ (((w.alloc (.cells ic.toArray 57)).alloc (.cells pc.toArray 37)).alloc (.cells tc.toArray 41)):=(Below.refl _ _).alloc (Nat.le_refl _) _
 have h1:=h0.below hb
 exact⟨h1.one,h1.two,h3,Mut.below h1.bel (Nat.le_refl _),h1.bel.size⟩
end
theorem vu7 {x:ba7}{p:ab7}{t:qb7}(hok:jdb7 x p):∀k,k≤p.trucks.length→∀r,xf7 x p t k=some r→r.length=x.sats.length∧∀v∈r,0≤v∧v≤2000000000
 | 0,_,r,h=>by
  cases h
  exact⟨List.length_replicate,fun v hv=>by rw[List.eq_of_mem_replicate hv];omega⟩
 | k+1,hk,r,h=>by
  simp only[xf7]at h
  cases hq:xf7 x p t k with
  | none=>rw[hq]at h;cases h
  | some q =>
   obtain⟨h1,h2⟩:=vu7 hok k (by omega) q hq
   rw[hq,Option.bind_some,List.getD_eq_getElem?_getD,List.getElem?_eq_getElem (show k<p.trucks.length by omega)]at h
   exact vqb7 (li7 hok.inst) (hok.truck _ (List.getElem_mem _)).2 h1 h2 h
theorem ei7 {l:List ga7}{b:ga7}(h:b∈l):b.stops.length≤pb7 l l.length:=by
 obtain⟨k,hk,rfl⟩:=List.getElem_of_mem h
 have h1:=re7 hk
 have h2:=qn7 (l:=l) (k:=k+1)
 omega
theorem qm7 {w:World}{F G H:Nat→Prop}{x:ba7}{p:ab7}{t:qb7}{cs ps ts:List Value}(h:kb7.rep w F x cs) (hp:wd7.rep w G p ps) (ht:ng7.rep w H t ts) (hn:check x=0→x.custs.length≤6) (hsm:bd7 p) :
  Calls Tryz.prog 116 #[.agg cs.toArray,.agg ps.toArray,.agg ts.toArray] w fun e w'=>e = .returned (.int .i64 (ra7 x p t))∧Below w.heap.size w w':=by
 have hrep:=h
 have hprep:=hp
 obtain⟨s,c,co,ti,rfl,-,h1,-,-,-⟩:=h
 obtain⟨a,b,off,c1,hs,hlc,hc,-,-,-,-⟩:=td7 h1
 obtain rfl:=List.cons.inj hs |>.1
 obtain⟨tv,bv,rfl,h3,h4⟩:=hp
 obtain⟨a2,b2,off2,c2,hs2,hlc2,hc2,ha2,-,hcell2⟩:=lc7 h3
 obtain rfl:=List.cons.inj hs2 |>.1
 obtain⟨a4,b4,off4,c4,hs4,hlc4,hc4,ha4,-,hcell4⟩:=zc7 h4
 obtain rfl:=List.cons.inj hs4 |>.1
 have htrep:=ht
 obtain⟨tv,bv,rfl,h5,h6⟩:=ht
 obtain⟨a5,b5,off5,c5,hs5,hlc5,hc5,ha5,-,hcell5⟩:=cd7 h5
 obtain rfl:=List.cons.inj hs5 |>.1
 obtain⟨a6,b6,off6,c6,hs6,hlc6,hc6,ha6,-,hcell6⟩:=hk7 h6
 obtain rfl:=List.cons.inj hs6 |>.1
 have HCELL2:=hid hcell2
 have HCELL4:=hid hcell4
 have HCELL5:=hid hcell5
 have HCELL6:=hid hcell6
 have HREP:=hid hrep
 have HPREP:=hid hprep
 have HTREP:=hid htrep
 have HN:=hid hn
 have HSM:=hid hsm
 obtain⟨ic,hic⟩:∃ic:List Value,ic=[.int .i64 x.fin,.int .i64 x.tmany,.int .i64 x.troom,.int .i64 x.bmany,.int .i64 x.broom,.slice a x.sats.length c1,c,co,ti]:=⟨_,rfl⟩
 obtain⟨pc,hpc⟩:∃pc:List Value,pc=[.slice a2 p.trucks.length c2,.slice a4 p.bikes.length c4]:=⟨_,rfl⟩
 obtain⟨tc,htc⟩:∃tc:List Value,tc=[.slice a5 t.trucks.length c5,.slice a6 t.bikes.length c6]:=⟨_,rfl⟩
 have hs0:=vpb7.start w ic pc tc
 rw[hic,hpc,htc]at hs0
 go_enter Tryz.func116,Tryz.ntmps116
 go_upto_region 1 with fail
 generalize ((w.alloc (.cells #[.int .i64 x.fin,.int .i64 x.tmany,.int .i64 x.troom,.int .i64 x.bmany,.int .i64 x.broom,.slice a x.sats.length c1,c,co,ti] 57)).alloc (.cells #[.slice a2 p.trucks.length c2,.slice a4 p.bikes.length c4] 37)).alloc
  (.cells #[.slice a5 t.trucks.length c5,.slice a6 t.bikes.length c6] 41)=w1 at hs0 ⊢
 obtain⟨qi,hqi⟩:∃q,q=w.heap.size:=⟨_,rfl⟩
 rw[← hic,← hpc,← htc]at hs0
 obtain⟨qp,hqp⟩:∃q,q=w.heap.size+1:=⟨_,rfl⟩
 obtain⟨qt,hqt⟩:∃q,q=w.heap.size+1+1:=⟨_,rfl⟩
 rw[← hqt,← hqp,← hqi]at hs0 ⊢
 have HIC:=hid hic
 have HPC:=hid hpc
 have HTC:=hid htc
 have HS1:=hid hs0
 clear hs hs2 hs4 hs5 hs6 h1 h3 h4 h5 h6 hcell2 hcell4 hcell5 hcell6 hrep hprep htrep hn hsm hic hpc htc hs0 hqi hqp hqt
 have RI:=HS1.out.inst
 rw[HIC.out]at RI
 obtain⟨q0,q1,q2,q3,q4,q5,q6,q7,q8⟩:=wh7 RI
 have RP:=HS1.out.plan
 rw[HPC.out]at RP
 obtain⟨p0,p1⟩:=gf7 RP
 clear RI RP
 go_wp2_with fail
 refine (jh7 (kb7.below HREP.out HS1.out.mu.bel) (wd7.below HPREP.out HS1.out.mu.bel) HN.out HSM.out).mono ?_
 rintro e w2 ⟨rfl,hb2⟩
 have HS2:=hid (HS1.out.below hb2)
 clear HS1 q0 q1 q2 q3 q4 q5 q6 q7 q8 p0 p1 hb2
 by_cases hpk:ya7 x p≠0
 ·as_aux_lemma =>
   have HE:=hid (show ra7 x p t=ya7 x p from by unfold ra7;rw[if_pos hpk])
   have hpk2:=xl7 hpk
   clear hpk
   go_wp2
   go_ret
   exact⟨yb7 HE.out.symm,HS2.out.mu.bel⟩
 ·have hpk0:ya7 x p=0:=by simpa using hpk
  have bd:=ux7 hpk0 (HN.out (aj7 hpk0).inst)
  have HBD:=hid bd
  have HC:=hid (show ra7 x p t=if gnb7 p t=false then 4 else if cic7 x p t=false then 12 else 0 from by unfold ra7;rw[if_neg hpk])
  have HPK:=hid hpk0
  have RP:=HS2.out.plan
  rw[HPC.out]at RP
  have RT:=HS2.out.tms
  rw[HTC.out]at RT
  obtain⟨p0,p1⟩:=gf7 RP
  obtain⟨t0,t1⟩:=gf7 RT
  rw[hpk0]
  clear RP RT hpk hpk0 bd
  by_cases e1:t.trucks.length=p.trucks.length
  ·by_cases e2:t.bikes.length=p.bikes.length
   ·have E1:=hid e1
    have E2:=hid e2
    rw[e1]at t0 HTC
    rw[e2]at t1 HTC
    rw[e1]at hlc5 ha5
    rw[e2]at hlc6 ha6
    have hT60:=HBD.out.tl
    have hB6:=HBD.out.b
    have hfit:=cfc7 (wd7.below HPREP.out HS2.out.mu.bel) (ng7.below HTREP.out HS2.out.mu.bel) e1 e2 hT60 (by omega) (fun u hu=>by have:=HBD.out.t1 u hu;omega) (fun u hu=>by
     have h1:=HBD.out.s
     have h2:=ei7 hu
     omega)
    rw[e1,e2]at hfit
    have HFIT:=hid hfit
    clear e1 e2 hfit
    go_wp2_with fail
    refine HFIT.out.mono ?_
    rintro e w3 ⟨rfl,hb3⟩
    have HS3:=hid (HS2.out.below hb3)
    have HFD:=hid (show ∀fb,fb=(pt7 p t p.trucks.length&&fq7 p t p.bikes.length)→gnb7 p t=fb from fun fb h=>by unfold gnb7;rw[decide_eq_true E1.out,decide_eq_true E2.out,h];rfl)
    have HFT:=hid (show (pt7 p t p.trucks.length&&fq7 p t p.bikes.length)=true→(∀k (h:k<p.trucks.length),(t.trucks[k]'(by rw[E1.out];exact h)).length=p.trucks[k].length)∧∀k (h:k<p.bikes.length),(t.bikes[k]'(by rw[E2.out];exact h)).starts.length=p.bikes[k].stops.length from fun h=>by
     simp only[Bool.and_eq_true,pt7,fq7,List.all_eq_true,List.mem_range]at h
     refine⟨fun k hk=>?_,fun k hk=>?_⟩
     ·have:=of_decide_eq_true (h.1 k hk)
      rw[List.getD_eq_getElem?_getD,List.getD_eq_getElem?_getD,List.getElem?_eq_getElem hk,List.getElem?_eq_getElem (by rw[E1.out];exact hk)]at this
      exact this
     ·have:=of_decide_eq_true (h.2 k hk)
      unfold vdb7 at this
      rw[List.getD_eq_getElem?_getD,List.getD_eq_getElem?_getD,List.getElem?_eq_getElem hk,List.getElem?_eq_getElem (by rw[E2.out];exact hk)]at this
      exact this)
    obtain⟨fb,hfb⟩:∃fb,fb=(pt7 p t p.trucks.length&&fq7 p t p.bikes.length):=⟨_,rfl⟩
    rw[← hfb]at HFT ⊢
    have HF2:=hid (HFD.out fb hfb)
    clear hfb HFD HFIT HS2 p0 p1 t0 t1 hb3
    cases fb
    ·as_aux_lemma =>
      have HE:=hid (show ra7 x p t=4 from by rw[HC.out,if_pos HF2.out])
      go_wp2
      go_ret
      exact⟨yb7 HE.out.symm,HS3.out.mu.bel⟩
    ·have HC2:=hid (show ra7 x p t=if cic7 x p t=false then 12 else 0 from by rw[HC.out,if_neg (by rw[HF2.out];simp)])
     have hft:=HFT.out rfl
     have HFK:=hid hft
     have gd:=li7 HBD.out.ok.inst
     have hsl:=gd.sats
     have GD:=hid gd
     obtain⟨i0,hi,hz0,hz1,hz2⟩:=info_parts gj7
     have hmk:=ck7 Tryz.underlying78 hi hz0 hz1 hz2 (n:=x.sats.length) (by omega)
     clear hi hz0 hz1 hz2 i0 hft gd HC HFT
     have RI:=HS3.out.inst
     rw[HIC.out]at RI
     obtain⟨q0,q1,q2,q3,q4,q5,q6,q7,q8⟩:=wh7 RI
     have hal:Below w3.heap.size w3 (w3.alloc (.cells (Array.replicate x.sats.length (ib7 0)) 2)):=(Below.refl _ _).alloc (Nat.le_refl _) _
     have HS4:=hid (HS3.out.below hal)
     have HR4:=hid (show Row (w3.alloc (.cells (Array.replicate x.sats.length (ib7 0)) 2)) w3.heap.size 2 ((List.replicate x.sats.length 0).map ib7) from Row.make)
     have HGL:=hid HS3.out.le
     obtain⟨gr,hgr⟩:∃g,g=w3.heap.size:=⟨_,rfl⟩
     rw[← hgr]at HR4 HGL
     clear RI hal HS3
     go_upto_region 7 with fail
     rw[← hgr]
     generalize w3.alloc (.cells (Array.replicate x.sats.length (ib7 0)) 2)=w4 at HS4 HR4 ⊢
     clear hgr q0 q1 q2 q3 q4 q5 q6 q7 q8 hmk
     have RP:=HS4.out.plan
     rw[HPC.out]at RP
     obtain⟨p0,p1⟩:=gf7 RP
     clear RP
     go_wp2
     go_loopw [48] (fun kv wr=>∃(k:Nat) (ready:List Int),k≤p.trucks.length∧kv = .int .i64 k∧xf7 x p t k=some ready∧vpb7 w qi qp qt ic pc tc wr∧Row wr gr 2 (ready.map ib7)) (fun kv _=>p.trucks.length-(intOf kv).toNat)
     case atStart=>exact⟨0,_,Nat.zero_le _,rfl,rfl,HS4.out,HR4.out⟩
     case round =>
      clear p0 p1 HS4 HR4
      obtain⟨k,ready,hk,rfl,hup,hst,hrow⟩:=hrel
      obtain⟨wo,rfl⟩:∃wo:World,wo=wr:=⟨_,rfl⟩
      obtain⟨hrl,hrB⟩:=vu7 HBD.out.ok k hk ready hup
      have HUP:=hid hup
      have HRB:=hid hrB
      have HST:=hid hst
      have HRW:=hid hrow
      clear hup hrB hrow
      by_cases hlt:k<p.trucks.length
      ·as_aux_lemma =>
        have hx:=ka7 (c:=c2) Tryz.underlying34 kh7 (ha2 (by omega)) hlt
        have hx5:=ka7 (c:=c5) Tryz.underlying38 ah7 (ha5 (by omega)) hlt
        obtain⟨sv,g0,hr⟩:=HCELL2.out k hlt
        have hsrep:=hr
        obtain⟨a3,b3,off3,c3,hs3,hl3,hc3,-,-,-,-⟩:=sd7 hr
        obtain rfl:=List.cons.inj hs3 |>.1
        obtain⟨sv,g1,hr2⟩:=HCELL5.out k (by rw[E1.out];exact hlt)
        have hlrep:=hr2
        obtain⟨a7,b7,off7,c7,hs7,hl7,hc7,-,-,-,-⟩:=bb7 hr2
        obtain rfl:=List.cons.inj hs7 |>.1
        have hll:=HFK.out.1 k hlt
        have HNX:=hid (show xf7 x p t (k+1)=lo7 x p.trucks[k] (t.trucks[k]'(by rw[E1.out];exact hlt)) ready from by
         simp only[xf7]
         rw[HUP.out,Option.bind_some,List.getD_eq_getElem?_getD,List.getD_eq_getElem?_getD,List.getElem?_eq_getElem hlt,List.getElem?_eq_getElem (by rw[E1.out];exact hlt)];rfl)
        have HTK:=hid (fun (wx:World) (hb:Below w.heap.size w wx) (hr:Row wx gr 2 (ready.map ib7))=>cdc7 HREP.out hb GD.out hsrep (HBD.out.ok.truck _ (List.getElem_mem hlt)).2 (by have:=HBD.out.t1 _ (List.getElem_mem hlt);omega) hlrep hll hr hrl HRB.out HGL.out)
        have g0:=aa7 HST.out.mu.bel g0
        have HG1:=hid g1
        have hal:Below wo.heap.size wo (wo.alloc (.cells #[.slice a3 p.trucks[k].length c3] 124)):=(Below.refl _ _).alloc (Nat.le_refl _) _
        have HS5:=hid (HST.out.below hal)
        have HR5:=hid (HRW.out.below hal)
        have HX5:=hid (Row.new (w:=wo) (g:=wo.heap.size) (e:=124) (cs:=[.slice a3 p.trucks[k].length c3]) rfl)
        have RP:=HST.out.plan
        rw[HPC.out]at RP
        obtain⟨p0,p1⟩:=gf7 RP
        obtain⟨n1,hn1⟩:∃n,n=(t.trucks[k]'(by rw[E1.out];exact hlt)).length:=⟨_,rfl⟩
        obtain⟨n2,hn2⟩:∃n,n=p.trucks[k].length:=⟨_,rfl⟩
        rw[← hn1]at HG1 hl7 HTK
        rw[← hn2]at g0 hl3 HTK HX5 HS5 HR5
        obtain⟨X,hX⟩:∃X,X=wo.heap.size:=⟨_,rfl⟩
        rw[← hX]at HX5
        clear hs3 hs7 hr hr2 hsrep hlrep hll hn1 hst hal RP g1
        go_upto_region 10 with fail
        rw[← hX]
        try rw[← hn2]
        generalize wo.alloc (.cells #[.slice a3 n2 c3] 124)=w5 at HS5 HR5 HX5 ⊢
        clear hX p0 p1 g0 hn2
        have RI:=HS5.out.inst
        rw[HIC.out]at RI
        have RT:=HS5.out.tms
        rw[HTC.out]at RT
        have RX:=HX5.out
        go_wp2
        have z0:∀e:At (Mut rts w.heap.size w5),_:=fun e=>Mut.cell (j:=0) e.ok RI (by decide) rfl
        have z1:∀e:At (Mut rts w.heap.size w5),_:=fun e=>Mut.cell (j:=1) e.ok RI (by decide) rfl
        have z2:∀e:At (Mut rts w.heap.size w5),_:=fun e=>Mut.cell (j:=2) e.ok RI (by decide) rfl
        have z3:∀e:At (Mut rts w.heap.size w5),_:=fun e=>Mut.cell (j:=3) e.ok RI (by decide) rfl
        have z4:∀e:At (Mut rts w.heap.size w5),_:=fun e=>Mut.cell (j:=4) e.ok RI (by decide) rfl
        have z5:∀e:At (Mut rts w.heap.size w5),_:=fun e=>Mut.cell (j:=5) e.ok RI (by decide) rfl
        have z6:∀e:At (Mut rts w.heap.size w5),_:=fun e=>Mut.cell (j:=6) e.ok RI (by decide) rfl
        have z7:∀e:At (Mut rts w.heap.size w5),_:=fun e=>Mut.cell (j:=7) e.ok RI (by decide) rfl
        have z8:∀e:At (Mut rts w.heap.size w5),_:=fun e=>Mut.cell (j:=8) e.ok RI (by decide) rfl
        have zt:∀e:At (Mut rts w.heap.size w5),_:=fun e=>Mut.cell (j:=0) e.ok RT (by decide) rfl
        have zx:∀e:At (Mut rts w.heap.size w5),_:=fun e=>Mut.cell (j:=0) e.ok RX (by decide) rfl
        have zg:∀e:At (Mut rts w.heap.size w5),_:=fun e=>aa7 (HS5.out.move e.ok).mu.bel HG1.out
        refine ma7 (Mut rts w.heap.size w5) [9] [([0,1,2,3,4,5,6,7],8,false),([],9,true)] (by kernel_rfl) (by kernel_rfl) (fun _ _ d _ _ h=>by cases d <;> exact h) (Mut.refl _ _ _).drew ?_
        simp only[gd7,List.map_cons,List.map_nil,Array.getD_eq_getD_getElem?,List.getElem?_toArray,List.getElem?_cons_succ,List.getElem?_cons_zero,Option.getD_some,me7]
        repeat (go_big_quiet_step (fail))
        refine wpQuiet_nil ?_
        have hM0:Mut rts w.heap.size w5 w5.drew:=(Mut.refl _ _ _).drew
        go_wp2_with fail
        refine (HTK.out _ (HS5.out.move hM0).mu.bel HR5.out.drew).mono ?_
        rintro e w6 ⟨hM,hcase⟩
        have hM6:=hM0.trans hM
        have HS6:=hid (HS5.out.move hM6)
        rcases hcase with ⟨r',hc',rfl,hr'⟩ | ⟨hc',rfl⟩
        ·have HR6:=hid hr'
         have HCC:=hid hc'
         clear hc' hr'
         go_wp2_with fail
         refine⟨hM6,wpQuiet_nil ?_⟩
         go_wp2
         go_roundw
         case rel=>exact⟨k+1,r',by omega,by go_num,by rw[HNX.out,HCC.out],HS6.out,HR6.out⟩
         case measure=>simp[intOf];omega
        ·have hn1:xf7 x p t (k+1)=none:=by rw[HNX.out,hc']
         have hf:=qp7 hn1 (p.trucks.length-(k+1))
         rw[show k+1+(p.trucks.length-(k+1))=p.trucks.length by omega]at hf
         have HE:=hid (show ra7 x p t=12 from by rw[HC2.out,if_pos (by unfold cic7;rw[hf])])
         clear hc' hn1 hf
         go_wp2_with fail
         refine⟨hM6,wpQuiet_nil ?_⟩
         go_wp2
         go_ret
         exact⟨yb7 HE.out.symm,HS6.out.mu.bel⟩
      ·obtain rfl:k=p.trucks.length:=by omega
       have HC3:=hid (show ra7 x p t=if ds7 x p t ready p.bikes.length=false then 12 else 0 from by rw[HC2.out];unfold cic7;rw[HUP.out])
       have RP:=HST.out.plan
       rw[HPC.out]at RP
       obtain⟨p0,p1⟩:=gf7 RP
       clear RP hst
       go_wp2
       go_loopw [67] (fun kv wr=>∃(k:Nat),k≤p.bikes.length∧kv = .int .i64 k∧ds7 x p t ready k=true∧vpb7 w qi qp qt ic pc tc wr∧Row wr gr 2 (ready.map ib7)) (fun kv _=>p.bikes.length-(intOf kv).toNat)
       case atStart=>exact⟨0,Nat.zero_le _,rfl,rfl,HST.out,HRW.out⟩
       case round =>
        clear p0 p1 HST HRW
        obtain⟨k,hk,rfl,hup,hst,hrow⟩:=hrel
        obtain⟨wo,rfl⟩:∃wo:World,wo=wr:=⟨_,rfl⟩
        have HUB:=hid hup
        have HST:=hid hst
        have HRW:=hid hrow
        clear hup hrow hst
        by_cases hlt:k<p.bikes.length
        ·as_aux_lemma =>
          have hx:=vb7 (c:=c4) Tryz.underlying35 vj7 (ha4 (by omega)) hlt
          have hx5:=vb7 (c:=c6) Tryz.underlying39 kjb7 (ha6 (by omega)) hlt
          obtain⟨sv,g0,g00,hw0,hr⟩:=HCELL4.out k hlt
          have hbrep:cq7.rep w G p.bikes[k] [.int .i64 p.bikes[k].sat,sv]:=⟨sv,rfl,hw0,hr⟩
          obtain⟨a3,b3,off3,c3,hs3,hl3,hc3,-,-,-,-⟩:=bb7 hr
          obtain rfl:=List.cons.inj hs3 |>.1
          obtain⟨sv,g1,g2,g3,hw1,hw2,hr2⟩:=HCELL6.out k (by rw[E2.out];exact hlt)
          have hrrep:iy7.rep w H (t.bikes[k]'(by rw[E2.out];exact hlt)) [.int .i64 (t.bikes[k]'(by rw[E2.out];exact hlt)).out,sv,.int .i64 (t.bikes[k]'(by rw[E2.out];exact hlt)).back]:=⟨sv,rfl,hw1,hw2,hr2⟩
          obtain⟨a7,b7,off7,c7,hs7,hl7,hc7,-,-,-,-⟩:=bb7 hr2
          obtain rfl:=List.cons.inj hs7 |>.1
          have hll:=HFK.out.2 k hlt
          have HNX:=hid (show ds7 x p t ready (k+1)=tgb7 x p.bikes[k] (t.bikes[k]'(by rw[E2.out];exact hlt)) ready from by
           have hh:=HUB.out
           unfold ds7 at hh ⊢
           rw[zbb7,hh,Bool.true_and]
           unfold vdb7
           rw[List.getD_eq_getElem?_getD,List.getD_eq_getElem?_getD,List.getElem?_eq_getElem hlt,List.getElem?_eq_getElem (by rw[E2.out];exact hlt)];rfl)
          have HTK:=hid (fun (wx:World) (hb:Below w.heap.size w wx) (hr:Row wx gr 2 (ready.map ib7))=>yic7 (kb7.below HREP.out hb) GD.out (cq7.below hbrep hb) (HBD.out.ok.bike _ (List.getElem_mem hlt)) (by
           have h1:=HBD.out.s
           have h2:=ei7 (List.getElem_mem hlt)
           omega) (iy7.below hrrep hb) hll hr hrl HRB.out)
          have g0:=aa7 HST.out.mu.bel g0
          have g00:=aa7 HST.out.mu.bel g00
          have HG1:=hid g1
          have HG2:=hid g2
          have HG3:=hid g3
          have RP:=HST.out.plan
          rw[HPC.out]at RP
          obtain⟨p0,p1⟩:=gf7 RP
          obtain⟨bk,hbk⟩:∃b,b=p.bikes[k]:=⟨_,rfl⟩
          obtain⟨rd,hrd⟩:∃b,b=t.bikes[k]'(by rw[E2.out];exact hlt):=⟨_,rfl⟩
          rw[← hbk]at g0 g00 hl3 HTK HNX
          rw[← hrd]at HG1 HG2 HG3 hl7 HTK HNX
          have hal:Below wo.heap.size wo (wo.alloc (.cells #[.int .i64 bk.sat,.slice a3 bk.stops.length c3] 70)):=(Below.refl _ _).alloc (Nat.le_refl _) _
          have HS5:=hid (HST.out.below hal)
          have HR5:=hid (HRW.out.below hal)
          have HX5:=hid (Row.new (w:=wo) (g:=wo.heap.size) (e:=70) (cs:=[.int .i64 bk.sat,.slice a3 bk.stops.length c3]) rfl)
          obtain⟨X,hX⟩:∃X,X=wo.heap.size:=⟨_,rfl⟩
          rw[← hX]at HX5
          clear hs3 hs7 hr hr2 hbrep hrrep hll hal RP g1 g2 g3 hw0 hw1 hw2 hbk hrd
          go_upto_region 16 with fail
          rw[← hX]
          generalize wo.alloc (.cells #[.int .i64 bk.sat,.slice a3 bk.stops.length c3] 70)=w5 at HS5 HR5 HX5 ⊢
          clear hX p0 p1 g0 g00
          have RI:=HS5.out.inst
          rw[HIC.out]at RI
          obtain⟨q0,q1,q2,q3,q4,q5,q6,q7,q8⟩:=wh7 RI
          have RT:=HS5.out.tms
          rw[HTC.out]at RT
          obtain⟨t0,t1⟩:=gf7 RT
          obtain⟨x0,x1⟩:=gf7 HX5.out
          have g1:=aa7 HS5.out.mu.bel HG1.out
          have g2:=aa7 HS5.out.mu.bel HG2.out
          have g3:=aa7 HS5.out.mu.bel HG3.out
          clear RI RT
          go_wp2
          have z0:∀e:At (Old w5),_:=fun e=>e.cell q0
          have z1:∀e:At (Old w5),_:=fun e=>e.cell q1
          have z2:∀e:At (Old w5),_:=fun e=>e.cell q2
          have z3:∀e:At (Old w5),_:=fun e=>e.cell q3
          have z4:∀e:At (Old w5),_:=fun e=>e.cell q4
          have z5:∀e:At (Old w5),_:=fun e=>e.cell q5
          have z6:∀e:At (Old w5),_:=fun e=>e.cell q6
          have z7:∀e:At (Old w5),_:=fun e=>e.cell q7
          have z8:∀e:At (Old w5),_:=fun e=>e.cell q8
          have zt:∀e:At (Old w5),_:=fun e=>e.cell t1
          have zx:∀e:At (Old w5),_:=fun e=>e.cell x0
          have zy:∀e:At (Old w5),_:=fun e=>e.cell x1
          have za:∀e:At (Old w5),_:=fun e=>e.cell g1
          have zb:∀e:At (Old w5),_:=fun e=>e.cell g2
          have zc:∀e:At (Old w5),_:=fun e=>e.cell g3
          refine ma7 (Old w5) [9] [([0,1,2,3,4,5,6,7],8,false),([],9,true)] (by kernel_rfl) (by kernel_rfl) (fun _ _ d _ _ h=>by cases d <;> exact h) (Old.drew _) ?_
          simp only[gd7,List.map_cons,List.map_nil,Array.getD_eq_getD_getElem?,List.getElem?_toArray,List.getElem?_cons_succ,List.getElem?_cons_zero,Option.getD_some,me7]
          repeat (go_big_quiet_step (fail))
          refine wpQuiet_nil ?_
          have hO0:=Old.drew w5
          go_wp2_with fail
          refine (HTK.out _ (HS5.out.below hO0).mu.bel HR5.out.drew).mono ?_
          rintro e w6 ⟨rfl,hb6⟩
          have hO6:=hO0.step hb6
          have HS6:=hid (HS5.out.below hO6)
          have HR6:=hid (HR5.out.below hO6)
          obtain⟨bv,hbv⟩:∃b,b=tgb7 x bk rd ready:=⟨_,rfl⟩
          rw[← hbv]at HNX ⊢
          clear hbv q0 q1 q2 q3 q4 q5 q6 q7 q8 t0 t1 x0 x1 g1 g2 g3 z0 z1 z2 z3 z4 z5 z6 z7 z8 zt zx zy za zb zc
          go_wp2_with fail
          refine⟨hO6,wpQuiet_nil ?_⟩
          cases bv
          ·have HE:=hid (show ra7 x p t=12 from by
            rw[HC3.out,if_pos]
            have h1:=HNX.out
            rw[Bool.eq_false_iff]
            intro h2
            unfold ds7 at h1 h2
            rw[List.all_eq_true]at h2
            rw[← Bool.not_eq_true,List.all_eq_true]at h1
            exact h1 fun i hi=>h2 i (List.mem_range.2 (by have:=List.mem_range.1 hi;omega)))
           go_wp2
           go_ret
           exact⟨yb7 HE.out.symm,HS6.out.mu.bel⟩
          ·go_wp2
           go_roundw
           case rel=>exact⟨k+1,by omega,by go_num,HNX.out,HS6.out,HR6.out⟩
           case measure=>simp[intOf];omega
        ·obtain rfl:k=p.bikes.length:=by omega
         have HE:=hid (show ra7 x p t=0 from by rw[HC3.out,if_neg (by rw[HUB.out];simp)])
         go_wp2
         go_ret
         exact⟨yb7 HE.out.symm,HST.out.mu.bel⟩
   ·as_aux_lemma =>
     have HE:=hid (show ra7 x p t=4 from by rw[HC.out,if_pos (by unfold gnb7;rw[decide_eq_false e2];simp)])
     go_wp2
     go_ret
     exact⟨yb7 HE.out.symm,HS2.out.mu.bel⟩
  ·as_aux_lemma =>
    have HE:=hid (show ra7 x p t=4 from by rw[HC.out,if_pos (by unfold gnb7;rw[decide_eq_false e1];simp)])
    go_wp2
    go_ret
    exact⟨yb7 HE.out.symm,HS2.out.mu.bel⟩
end Go.Proofs.YtabadfkikdefeaaGreat
