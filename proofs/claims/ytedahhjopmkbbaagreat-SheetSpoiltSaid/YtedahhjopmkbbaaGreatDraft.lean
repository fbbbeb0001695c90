/- Contract: wharfagelaw17.Draft. -/
import Derived.Deep.DeepCutAuto
import Derived.BigRegion
import Derived.BigQuiet
import Derived.Test.YtedahhjopmkbbaaGreatP3
set_option linter.all false
set_option maxRecDepth 100000
set_option maxHeartbeats 6400000
namespace Go.Proofs.YtedahhjopmkbbaaGreat
open Go.RowKit
theorem wrc7 {w:World}{F:Nat→Prop}{l:List Int}{v:Value}(h:yc7.rep w F l [v]) {i:Nat}(hi:i<1000000) :
  Calls Tryz.prog 49 #[v,.int .i64 (i:Int)] w fun e w'=>e = .returned (.int .i64 (atD l i))∧w'=w:=by
 obtain⟨a,b,off,c,hs,hlc,hc,ha,-,hcell,hwf⟩:=ve7 h
 obtain rfl:=List.cons.inj hs |>.1
 clear hs h
 by_cases h0:l.length=0
 ·have e0:((l.length:Int)==0)=true:=by simpa using h0
  have HA:=hid (show atD l i=0 from by unfold atD;rw[List.getD_eq_getElem?_getD,List.getElem?_eq_none (by omega)];rfl)
  clear h0
  go_enter Tryz.func49,Tryz.ntmps49
  go_wp2
  go_ret
  exact⟨by rw[HA.out];rfl,rfl⟩
 ·have e0:((l.length:Int)==0)=false:=by simpa using h0
  have hl0:0<l.length:=by omega
  have hl0':(0:Int)<(l.length:Int):=by omega
  have hkl:i % l.length<l.length:=Nat.mod_lt _ hl0
  have hx:=nvb7 (k:=i) (c:=c) Tryz.underlying24 poc7 (ha hl0) hl0
  have g0:=hcell (i % l.length) hkl
  have hr:=hwf _ (List.getElem_mem hkl)
  have HA:=hid (show atD l i=l[i % l.length] from by unfold atD;rw[List.getD_eq_getElem?_getD,List.getElem?_eq_getElem hkl];rfl)
  obtain⟨y,hy⟩:∃y,y=l[i % l.length]:=⟨_,rfl⟩
  rw[← hy]at g0 hr HA
  clear hy hcell hwf ha h0
  go_enter Tryz.func49,Tryz.ntmps49
  go_wp2
  go_ret
  exact⟨by rw[HA.out];rfl,rfl⟩
theorem job7 {x:ca7}{l:List Int}{n:Int}(hn:0≤n∧n≤1000) (hl:∀c∈l,0≤(fc7 x c).load∧(fc7 x c).load≤1000):∀j,j≤l.length→0≤hq7 x l n j∧hq7 x l n j≤1000*((j:Int)+1)
 | 0,_=>by unfold hq7;simp;omega
 | j+1,h=>by
  have ih:=job7 hn hl j (by omega)
  have:=hl _ (List.getElem_mem (show j<l.length by omega))
  rw[zab7 (show j<l.length by omega)]
  push_cast;omega
theorem khb7 (o:List Int) (c:Nat):mf7 o (c+1)=(mf7 o c).take (qkb7 o c (mf7 o c).length)++c::(mf7 o c).drop (qkb7 o c (mf7 o c).length):=rfl
theorem dkc7 {w:World}{F G:Nat→Prop}{x:ca7}{cs:List Value}{wi:df7}{ds:List Value}(h:erb7.rep w F x cs) (hw:kjb7.rep w G wi ds) (hns:1≤x.sats.length∧x.sats.length≤3) (hnc:1≤x.custs.length∧x.custs.length≤6)
  (hcl:∀c∈x.custs,1≤c.load∧c.load≤1000) (htr:1≤x.troom∧x.troom≤1000000000) (hbr:0≤x.broom∧x.broom≤1000000000) :
  Calls Tryz.prog 20 #[.agg cs.toArray,.agg ds.toArray] w fun e w'=>∃tv bv ts vs,e = .returned (.agg #[tv,bv])∧xh7 69 66 w' w.heap.size tv (fg7 x wi).trucks ts∧zh7 75 3 w' w.heap.size bv (fg7 x wi).bikes vs∧Below w.heap.size w w':=by
 obtain⟨s,c,co,ti,rfl,-,h1,h2,-,-⟩:=h
 obtain⟨a1,b1,off1,c1,hs1,-,hk1,ha1,-,-,-⟩:=uhb7 h1
 obtain⟨a2,b2,off2,c2,hs2,-,hk2,ha2,-,hcell2,-⟩:=mz7 h2
 obtain rfl:=List.cons.inj hs1 |>.1
 obtain rfl:=List.cons.inj hs2 |>.1
 obtain⟨ws,wo,wc,rfl,hws,hwo,hwc⟩:=hw
 have hBo:Bytes wi.order:=by obtain⟨_,_,_,_,-,-,-,-,-,-,h⟩:=ve7 hwo;exact h
 have hBs:Bytes wi.sats:=by obtain⟨_,_,_,_,-,-,-,-,-,-,h⟩:=ve7 hws;exact h
 have hBc:Bytes wi.cuts:=by obtain⟨_,_,_,_,-,-,-,-,-,-,h⟩:=ve7 hwc;exact h
 clear hs1 hs2 h1 h2
 have HBO:=hid hBo
 have HBS:=hid hBs
 have HBC:=hid hBc
 have hcu:∀k,k<x.custs.length→w.cell? ⟨b2,off2+k*4,none⟩=some (.int .i64 (fc7 x k).load)∧1≤(fc7 x k).load∧(fc7 x k).load≤1000:=fun k hk=>by
  have e:fc7 x (k:Int)=x.custs[k]:=by unfold fc7;rw[Int.toNat_natCast,List.getD_eq_getElem?_getD,List.getElem?_eq_getElem hk];rfl
  rw[e]
  exact⟨(hcell2 k hk).1,hcl _ (List.getElem_mem hk)⟩
 have HCU:=hid hcu
 have hxc:∀k,k<x.custs.length→∀w,(Instr.indexAt 79 (.slice a2 x.custs.length c2) (.int .i64 (k:Int))).run Tryz.prog w = .ok (.pointer (some ⟨b2,off2+k*4,none⟩)) w:=fun k hk=>lh7 (c:=c2) Tryz.underlying79 azb7 (ha2 (by omega)) hk
 have HXC:=hid hxc
 have HWO:=hid hwo
 have HWS:=hid hws
 have HWC:=hid hwc
 clear hcu hxc hcell2 hcl hwo hws hwc hBo hBs hBc ha1 ha2
 have X0:=((Row.new (w:=w) (e:=81) (cs:=[.int .i64 x.fin,.int .i64 x.tmany,.int .i64 x.troom,.int .i64 x.bmany,.int .i64 x.broom,.slice a1 x.sats.length c1,.slice a2 x.custs.length c2,co,ti]) rfl).alloc (.cells #[ws,wo,wc] 28)).alloc (.cells #[.slice none 0 0,.slice none 0 0] 41)
 have W0:=(Row.new (w:=w.alloc (.cells #[.int .i64 x.fin,.int .i64 x.tmany,.int .i64 x.troom,.int .i64 x.bmany,.int .i64 x.broom,.slice a1 x.sats.length c1,.slice a2 x.custs.length c2,co,ti] 81)) (g:=w.heap.size+1) (e:=28) (cs:=[ws,wo,wc]) (by simp)).alloc (.cells #[.slice none 0 0,.slice none 0 0] 41)
 have P0:=Row.new (w:=(w.alloc (.cells #[.int .i64 x.fin,.int .i64 x.tmany,.int .i64 x.troom,.int .i64 x.bmany,.int .i64 x.broom,.slice a1 x.sats.length c1,.slice a2 x.custs.length c2,co,ti] 81)).alloc (.cells #[ws,wo,wc] 28)) (g:=w.heap.size+2) (e:=41) (cs:=[.slice none 0 0,.slice none 0 0]) (by simp)
 have hb0:Below w.heap.size w (((w.alloc (.cells #[.int .i64 x.fin,.int .i64 x.tmany,.int .i64 x.troom,.int .i64 x.bmany,.int .i64 x.broom,.slice a1 x.sats.length c1,.slice a2 x.custs.length c2,co,ti] 81)).alloc (.cells #[ws,wo,wc] 28)).alloc (.cells #[.slice none 0 0,.slice none 0 0] 41)):=(((Below.refl _ _).alloc (Nat.le_refl _) _).alloc (by simp) _).alloc (by simp;omega) _
 go_enter Tryz.func20,Tryz.ntmps20
 go_wp2
 go_loopw [5,27] (fun ov i wr=>∃(k:Nat) (ao:Option Addr) (cp:Nat),k≤x.custs.length∧i = .int .i64 k∧ov = .slice ao k cp∧wr.ownsRow w.heap.size 3 1 (.slice ao k cp) k ((mf7 wi.order k).map cvc7) ∧
   Row wr w.heap.size 81 [.int .i64 x.fin,.int .i64 x.tmany,.int .i64 x.troom,.int .i64 x.bmany,.int .i64 x.broom,.slice a1 x.sats.length c1,.slice a2 x.custs.length c2,co,ti] ∧
   Row wr (w.heap.size+1) 28 [ws,wo,wc]∧Row wr (w.heap.size+2) 41 [.slice none 0 0,.slice none 0 0]∧Below w.heap.size w wr) (fun _ i _=>x.custs.length-(intOf i).toNat)
 case atStart=>exact⟨0,none,0,Nat.zero_le _,rfl,rfl,World.ownsRow_nil _ _ _ _,X0,W0,P0,hb0⟩
 case round =>
  clear X0 W0 P0 hb0
  obtain⟨k,ao,cp,hk,rfl,rfl,hown,X1,W1,P1,hb⟩:=hrel
  obtain⟨wq,rfl⟩:∃wq:World,wq=wr:=⟨_,rfl⟩
  have hsz:=hb.size
  obtain⟨q0,q1,q2,q3,q4,q5,q6,q7,q8⟩:=wmc7 X1
  by_cases hlt:k<x.custs.length
  ·have w1':=W1.cell (j:=1) (by simp)
   simp only[List.getElem_cons_succ,List.getElem_cons_zero]at w1'
   have hat:=zbc7 HBO.out k
   have hins:=abc7 HBO.out k k
   have HINS:=hid hins.2
   have hin1:=hins.1
   have hoL:=fh7 wi.order k
   have HOL:=hid hoL
   clear hins hoL
   obtain⟨o1,o2,o3,o4,hwo,-,-,-,-,-,-⟩:=ve7 HWO.out
   obtain rfl:=List.cons.inj hwo |>.1
   clear hwo
   have hk1:(0:Int)<(k:Int)+1:=by omega
   have hem1:=Int.emod_nonneg (atD wi.order k) (show (k:Int)+1≠0 by omega)
   have hem2:=Int.emod_lt_of_pos (atD wi.order k) hk1
   obtain⟨av,hav⟩:∃av,av=atD wi.order k:=⟨_,rfl⟩
   have HAV:=hid hav
   rw[← hav]at hat hem1 hem2 HINS
   clear hav
   go_wp2_with fail
   refine (wrc7 (yc7.below HWO.out hb) (by omega)).mono ?_
   rintro e w1 ⟨rfl,rfl⟩
   rw[← HAV.out]
   go_wp2_with fail
   rw[← HINS.out]
   have hownA:=hown.alloc (.cells #[.int .i64 k] 3)
   have hneB:some w1.heap.size≠(Value.slice ao k cp).ownBlock:=fun e=>by have:=(hown.lt _ e.symm).2;omega
   refine (ccc7 (x:=.int .i64 k) hownA (by simp;omega) hin1 (by omega) (fun u hu=>by obtain⟨i,_,rfl⟩:=List.mem_map.1 hu;rfl) rfl (heap_alloc_new w1 _) hneB).mono ?_
   rintro e w2 ⟨u,rfl,hown2,hg2⟩
   obtain⟨ao2,cp2,hu2,-,-⟩:=eb7 hown2
   subst hu2
   have HB2:=hid (td7 (hb.alloc hsz (.cells #[.int .i64 k] 3)) hownA (by simp;omega) (Nat.le_refl _) hg2)
   have HX2:=hid ((X1.alloc (.cells #[.int .i64 k] 3)).grown hownA (by decide) hg2)
   have HW2:=hid ((W1.alloc (.cells #[.int .i64 k] 3)).grown hownA (by decide) hg2)
   have HP2:=hid ((P1.alloc (.cells #[.int .i64 k] 3)).grown hownA (by decide) hg2)
   have HOWN2:=hid (show w2.ownsRow w.heap.size 3 1 (.slice ao2 (k+1) cp2) (k+1) ((mf7 wi.order (k+1)).map cvc7) from by
    rw[khb7,HOL.out,List.map_append,List.map_cons,List.map_take,List.map_drop];exact hown2)
   clear hown2 hg2 hownA hneB
   go_wp2
   go_roundw
   case rel=>exact⟨k+1,ao2,cp2,by omega,by go_num,rfl,HOWN2.out,HX2.out,HW2.out,HP2.out,HB2.out⟩
   case measure=>simp[intOf];omega
  ·have hke:k=x.custs.length:=by omega
   subst hke
   obtain⟨os,hos⟩:∃os,os=mf7 wi.order x.custs.length:=⟨_,rfl⟩
   have hoL:os.length=x.custs.length:=by rw[hos,fh7]
   have hoB:∀c∈os,c<x.custs.length:=by rw[hos];exact nk7 _ _
   rw[← hos]at hown
   have HOS:=hid (show fg7 x wi=⟨(dUp x wi (ff7 x wi os os.length).1 (ff7 x wi os os.length).1.length).1,(ff7 x wi os os.length).2⟩ from by rw[hos];rfl)
   have HOL:=hid hoL
   have HOB:=hid hoB
   have HOK:=hid (fun k hk=>fk7 (x:=x) wi (os:=os) (fun c hc=>by
    obtain⟨i,hi,rfl⟩:=List.getElem_of_mem hc
    have:=(HCU.out i hi).2
    have e:fc7 x (i:Int)=x.custs[i]:=by unfold fc7;rw[Int.toNat_natCast,List.getD_eq_getElem?_getD,List.getElem?_eq_getElem hi];rfl
    rw[e]at this;omega) (by omega) hoB k hk)
   have HOWN:=hid hown
   obtain⟨go,capo,hvo,-,-,hgo,hRo⟩:=Row.of_owns hown (by omega)
   simp only[Value.slice.injEq]at hvo
   obtain⟨rfl,-,rfl⟩:=hvo
   have HRO:=hid hRo
   have hzo:=hRo.lt
   have hzx:=X1.lt
   have hzw:=W1.lt
   obtain⟨i0,hi,hz0,hz1,hz2⟩:=info_parts xbb7
   have hmk:=aq7 Tryz.underlying60 hi hz0 hz1 hz2 (n:=x.sats.length) (by omega)
   clear hi hz0 hz1 hz2 i0 hos hoL hoB hown hRo
   go_wp2
   go_loopw [49] (fun i wr=>∃(k:Nat) (lo:List Int) (bs:List ga7) (ba:Option Addr) (bc:Nat) (vs:List Value),k≤os.length∧i = .int .i64 k∧ff7 x wi os k=(lo,bs)∧zh7 75 3 wr wq.heap.size (.slice ba bs.length bc) bs vs ∧
     Row wr (wq.heap.size+1) 2 (lo.map jc7)∧Row wr wq.heap.size 41 [.slice none 0 0,.slice ba bs.length bc]∧Below wq.heap.size wq wr) (fun i _=>os.length-(intOf i).toNat)
   case atStart =>
    have hp0:Row (wq.alloc (.cells #[.slice none 0 0,.slice none 0 0] 41)) wq.heap.size 41 [.slice none 0 0,.slice none 0 0]:=Row.new rfl
    have hl0:=Row.make (w:=wq.alloc (.cells #[.slice none 0 0,.slice none 0 0] 41)) (n:=x.sats.length) (e:=2)
    rw[show (wq.alloc (.cells #[.slice none 0 0,.slice none 0 0] 41)).heap.size=wq.heap.size+1 by simp]at hl0
    exact⟨0,_,[],none,0,[],Nat.zero_le _,rfl,rfl,zh7.nil _ _ _ _,hl0,hp0.alloc _,((Below.refl _ _).alloc (Nat.le_refl _) _).alloc (by simp) _⟩
   case round =>
    obtain⟨k,lo,bs,ba,bc,vs,hk,rfl,hst,hB,hL,hP,hbx⟩:=hrel
    obtain⟨wy,rfl⟩:∃wy:World,wy=wr:=⟨_,rfl⟩
    have hby:=pa7 hb hbx
    have hszy:=hbx.size
    have hkc:os.length=x.custs.length:=HOL.out
    by_cases hlt2:k<os.length
    ·have hlt3:k<x.custs.length:=by omega
     clear hkc
     have hx:=nc7 (c:=cp) Tryz.underlying72 pt7 (a:=some ⟨go,0,none⟩) (off:=0) rfl (show k<x.custs.length by rw[← HOL.out];exact hlt2)
     rw[Nat.zero_add]at hx
     have gk:=(HRO.out.below hbx).cell (j:=k) (by rw[List.length_map];exact hlt2)
     rw[List.getElem_map]at gk
     unfold cvc7 at gk
     have hcb:=HOB.out _ (List.getElem_mem hlt2)
     have HST:=hid (show ff7 x wi os (k+1)=(wd7 x wi os[k] lo,zc7 x wi k os[k] bs) from by
      have e:os.getD k 0=os[k]:=by rw[List.getD_eq_getElem?_getD,List.getElem?_eq_getElem hlt2];rfl
      show (wd7 x wi (os.getD k 0) (ff7 x wi os k).1,zc7 x wi k (os.getD k 0) (ff7 x wi os k).2)=_
      rw[hst,e])
     have hok:=HOK.out k hk
     rw[hst]at hok
     obtain⟨c,hc⟩:∃c,c=os[k]:=⟨_,rfl⟩
     rw[← hc]at gk hcb HST
     have hcc:=HCU.out c hcb
     have gc:=ea7 hby hcc.1
     have hcld:=hcc.2
     have hxc:=HXC.out c hcb
     have hsat:=web7 (x:=x) (w:=wi) (by omega) c
     have HSAT:=hid hsat.2
     have hsl:=hsat.1
     obtain⟨sv,hsv⟩:∃sv,sv=sh7 x wi c:=⟨_,rfl⟩
     have HSV:=hid hsv
     rw[← hsv]at HSAT hsl
     obtain⟨ld,hld⟩:∃ld,ld=(fc7 x c).load:=⟨_,rfl⟩
     have HLD:=hid hld
     rw[← hld]at gc hcld
     obtain⟨av,hav⟩:∃av,av=atD wi.sats c:=⟨_,rfl⟩
     have HAV:=hid hav
     have hab:=zbc7 HBS.out c
     rw[← hav]at HSAT hab
     have hkL:k≤6:=by have:=HOL.out;omega
     clear hc hcc hst hsat hsv hld hav
     obtain⟨q0,q1,q2,q3,q4,q5,q6,q7,q8⟩:=wmc7 (X1.below hbx)
     have w0':=(W1.below hbx).cell (j:=0) (by simp)
     have w1':=(W1.below hbx).cell (j:=1) (by simp)
     have w2':=(W1.below hbx).cell (j:=2) (by simp)
     simp only[List.getElem_cons_succ,List.getElem_cons_zero]at w0' w1' w2'
     obtain⟨t1,t2,t3,t4,hws,-,-,-,-,-,-⟩:=ve7 HWS.out
     obtain rfl:=List.cons.inj hws |>.1
     have HAT:=hid (fun n=>wrc7 (yc7.below HWS.out (below_drewN hby n)) (show c<1000000 by omega))
     rw[← HAV.out]at HAT
     have hs0:(0:Int)<(x.sats.length:Int):=by omega
     have hem1:=Int.emod_nonneg av (show (x.sats.length:Int)≠0 by omega)
     have hem2:=Int.emod_lt_of_pos av hs0
     clear hws
     go_upto_region 12 with fail
     go_cut [11,12] (fun u v wz=>u = .int .i64 (sv:Int)∧v = .int .i64 ld∧∃n,wz=wy.drewN n)
     case first =>
      go_quiet ((go_at_call 49;exact Calls.quiet_of_same (HAT.out _)))
      go_wp2
      go_meet
      exact⟨by rw[HSAT.out],rfl,nq,rfl⟩
     case rest =>
      clear HAT hem1 hem2 q0 q1 q2 q3 q4 q5 q6 q7 q8 w0' w1' w2' gk gc hxc hx hab
      obtain⟨rfl,rfl,n,rfl⟩:=hcut
      have hlk:=hok.loB
      have hbl:=hok.bsL
      have hlL:=hok.loL
      have hxs:=nc7 (c:=x.sats.length) Tryz.underlying60 zq7 (a:=some ⟨wq.heap.size+1,0,none⟩) (off:=0) rfl hsl
      rw[Nat.zero_add]at hxs
      have hL0:Row (wy.drewN n) (wq.heap.size+1) 2 (lo.map jc7):=hL.drewN n
      have hP0:Row (wy.drewN n) wq.heap.size 41 [.slice none 0 0,.slice ba bs.length bc]:=hP.drewN n
      have hB0:=hB.below (below_drewN (Below.refl wy.heap.size wy) n)
      have hbx0:=below_drewN hbx n
      have hslL:sv<(lo.map jc7).length:=by rw[List.length_map,hlL];exact hsl
      have gl0:=hL0.cell hslL
      have glf:=hL0.frozen sv
      rw[List.getElem_map]at gl0
      have hlv:=hlk _ (List.getElem_mem (show sv<lo.length by rw[hlL];exact hsl))
      obtain⟨lv,hlv'⟩:∃lv,lv=lo[sv]'(by rw[hlL];exact hsl):=⟨_,rfl⟩
      rw[← hlv']at gl0 hlv
      unfold jc7 at gl0
      have HLO:=hid (show wd7 x wi c lo=lo.set sv (lv+ld) from by
       unfold wd7
       rw[← HSV.out,← HLD.out,List.getD_eq_getElem?_getD,List.getElem?_eq_getElem (by rw[hlL];exact hsl),hlv'];rfl)
      have HL1:=hid (show Row ((wy.drewN n).setCell ⟨wq.heap.size+1,sv,none⟩ (jc7 (lv+ld))) (wq.heap.size+1) 2 ((wd7 x wi c lo).map jc7) from by
       rw[HLO.out,List.map_set];exact hL0.set hslL _)
      have HP1:=hid (hP0.setOther (a:=⟨wq.heap.size+1,sv,none⟩) (by show wq.heap.size≠wq.heap.size+1;omega) (jc7 (lv+ld)))
      have hgr:=qi7 (wy.drewN n) ⟨wq.heap.size+1,sv,none⟩ (jc7 (lv+ld))
      have HB1:=hid (hB0.kept hgr (by
       cases e:(Value.slice ba bs.length bc).ownBlock with
       | none=>exact .inl rfl
       | some g=>exact .inr (fun e'=>xc7 hB0.own hL0 (by decide) (by rw[e,← e']))) (fun i hi=>by
       cases e:vs[i].ownBlock with
       | none=>exact .inl rfl
       | some g=>exact .inr (fun e'=>xc7 (hB0.rows i (by rw[← hB0.len];exact hi) hi) hL0 (by decide) (by rw[e,← e']))))
      have HX1:=hid (hbx0.setCell (p:=⟨wq.heap.size+1,sv,none⟩) (by show wq.heap.size≤wq.heap.size+1;omega) (jc7 (lv+ld)))
      obtain⟨pc0,pc1⟩:=ry7 hP0
      clear hlv' hL0 hP0 hB0 hbx0 hslL hgr hL hP hB hby hbx
      go_wp2
      go_loopw [13,78] (fun lv jv wx=>∃j:Nat,j≤bs.length∧jv = .int .i64 j∧lv = .int .i64 (cj7 bs sv j)∧zh7 75 3 wx wq.heap.size (.slice ba bs.length bc) bs vs ∧
        Row wx (wq.heap.size+1) 2 ((wd7 x wi c lo).map jc7)∧Row wx wq.heap.size 41 [.slice none 0 0,.slice ba bs.length bc]∧Below wq.heap.size wq wx) (fun _ jv _=>bs.length-(intOf jv).toNat)
      case atStart=>exact⟨0,Nat.zero_le _,rfl,rfl,HB1.out,HL1.out,HP1.out,HX1.out⟩
      case round =>
       clear gl0 glf pc0 pc1
       obtain⟨j,hj,rfl,rfl,hB,hL,hP,hbx⟩:=hrel
       obtain⟨wz,rfl⟩:∃wz:World,wz=wr:=⟨_,rfl⟩
       have hby:=pa7 hb hbx
       by_cases hjt:j<bs.length
       ·obtain⟨g,cap,hv3,-,-,hgB,hRow⟩:=Row.of_owns hB.own (by omega)
        simp only[Value.slice.injEq]at hv3
        obtain⟨rfl,-,rfl⟩:=hv3
        have hjv:j<vs.length:=by rw[hB.len];exact hjt
        have hcl:=oi7 bs vs hB.len
        have hg:=ig7 bs vs j hjt hjv
        have c0:=hRow.cell (j:=2*j) (by omega)
        have c1':=hRow.cell (j:=2*j+1) (by omega)
        rw[List.getElem?_eq_getElem (by omega)]at hg
        rw[List.getElem?_eq_getElem (by omega)]at hg
        rw[Option.some.inj hg.1]at c0
        rw[Option.some.inj hg.2]at c1'
        obtain⟨ua,uc,huv,-,-⟩:=eb7 (hB.rows j hjt hjv)
        rw[huv]at c1'
        obtain⟨un,hun⟩:∃un,un=(bs[j]).stops.length:=⟨_,rfl⟩
        rw[← hun]at c1'
        have hxb:∀w,(Instr.indexAt 39 (.slice (some ⟨g,0,none⟩) bs.length bc) (.int .i64 (j:Int))).run Tryz.prog w = .ok (.pointer (some ⟨g,2*j,none⟩)) w:=fun w=>by
         have:=lh7 (c:=bc) Tryz.underlying39 np7 (a:=some ⟨g,0,none⟩) rfl hjt w
         rw[Nat.zero_add,Nat.mul_comm]at this
         exact this
        have HLU:=hid (show cj7 bs sv (j+1)=if (bs[j]).sat=(sv:Int) then (j:Int) else cj7 bs sv j from by
         simp only[cj7]
         rw[List.getD_eq_getElem?_getD,List.getElem?_eq_getElem hjt];rfl)
        obtain⟨bst,hbst⟩:∃b,b=(bs[j]).sat:=⟨_,rfl⟩
        rw[← hbst]at c0 HLU
        have hzz:=hRow.lt
        have HB2:=hid hB
        have HL2:=hid hL
        have HP2:=hid hP
        have hszz:=hbx.size
        clear huv hun hbst hg hcl hjv hRow hB hL hP
        by_cases heq:bst=(sv:Int)
        ·have e1:(bst==(sv:Int))=true:=by simpa using heq
         have HLU2:=hid (HLU.out.trans (if_pos heq))
         clear heq HLU
         go_wp2
         go_roundw
         case rel=>exact⟨j+1,by omega,by go_num,by rw[HLU2.out],HB2.out.below ((Below.refl _ _).alloc (Nat.le_refl _) _),HL2.out.alloc _,HP2.out.alloc _,hbx.alloc hszz _⟩
         case measure=>simp[intOf];omega
        ·have e1:(bst==(sv:Int))=false:=by simpa using heq
         have HLU2:=hid (HLU.out.trans (if_neg heq))
         clear heq HLU
         go_wp2
         go_roundw
         case rel=>exact⟨j+1,by omega,by go_num,by rw[HLU2.out],HB2.out.below ((Below.refl _ _).alloc (Nat.le_refl _) _),HL2.out.alloc _,HP2.out.alloc _,hbx.alloc hszz _⟩
         case measure=>simp[intOf];omega
       ·have hje:j=bs.length:=by omega
        subst hje
        have hla:=av7 bs sv bs.length
        obtain⟨la,hla'⟩:∃la,la=cj7 bs sv bs.length:=⟨_,rfl⟩
        rw[← hla']at hla ⊢
        have HLA:=hid hla'
        have HJOIN:=hid (show chb7 x wi k c bs=(decide (0≤la)&&(decide (0<atD wi.cuts k % 4)&&decide (hq7 x (bs.getD la.toNat ⟨0,[]⟩).stops ld (bs.getD la.toNat ⟨0,[]⟩).stops.length≤x.broom))) from by
         unfold chb7;rw[← HSV.out,← hla',← HLD.out])
        have HSTEP:=hid (show zc7 x wi k c bs=if chb7 x wi k c bs then qeb7 bs la.toNat c else bs++[⟨sv,[(c:Int)]⟩] from by
         unfold zc7;rw[← HSV.out,← hla'])
        clear hla'
        obtain⟨av2,hav2⟩:∃av2,av2=atD wi.cuts k:=⟨_,rfl⟩
        have hab2:=zbc7 HBC.out k
        rw[← hav2]at hab2 HJOIN
        have HAV2:=hid hav2
        clear hav2
        obtain⟨q0,q1,q2,q3,q4,q5,q6,q7,q8⟩:=wmc7 (X1.below hbx)
        have w2':=(W1.below hbx).cell (j:=2) (by simp)
        simp only[List.getElem_cons_succ,List.getElem_cons_zero]at w2'
        obtain⟨y1,y2,y3,y4,hwc,-,-,-,-,-,-⟩:=ve7 HWC.out
        obtain rfl:=List.cons.inj hwc |>.1
        obtain⟨pc0,pc1⟩:=ry7 hP
        have HAT:=hid (wrc7 (yc7.below HWC.out hby) (show k<1000000 by omega))
        rw[← HAV2.out]at HAT
        have hem3:0≤av2 % 4∧av2 % 4<4:=by omega
        have HB3:=hid hB
        have HL3:=hid hL
        have HP3:=hid hP
        clear hwc hB hL hP
        obtain⟨jb,hjb⟩:∃jb,jb=(decide (0≤la)&&decide (0<av2 % 4)):=⟨_,rfl⟩
        have HJB:=hid hjb
        clear hjb
        go_upto_region 21 with fail
        go_cut [98] (fun jv wx=>jv = .bool jb∧wx=wz)
        case first =>
         by_cases hl0:0≤la
         ·have HJ2:=hid (show jb=decide (0<av2 % 4) from by rw[HJB.out,decide_eq_true hl0];rfl)
          go_wp2_with fail
          refine HAT.out.mono ?_
          rintro e w' ⟨rfl,rfl⟩
          go_wp2
          go_meet
          exact⟨by rw[HJ2.out],rfl⟩
         ·have HJ2:=hid (show jb=false from by rw[HJB.out,decide_eq_false hl0];rfl)
          go_wp2
          go_meet
          exact⟨by rw[HJ2.out],rfl⟩
        case rest =>
         clear HAT w2' pc0 pc1 q0 q1 q2 q3 q4 q5 q6 q7 q8
         obtain⟨rfl,rfl⟩:=hcut
         obtain⟨wv,rfl⟩:∃wv:World,wv=wc:=⟨_,rfl⟩
         have hszv:=hbx.size
         go_upto_if 98 with fail
         go_cut [] (fun wx=>chb7 x wi k c bs=false∧zh7 75 3 wx wq.heap.size (.slice ba bs.length bc) bs vs ∧
          Row wx (wq.heap.size+1) 2 ((wd7 x wi c lo).map jc7)∧Row wx wq.heap.size 41 [.slice none 0 0,.slice ba bs.length bc]∧Below wq.heap.size wq wx)
         case first =>
          cases jb
          case false =>
           have HJ3:=hid (show chb7 x wi k c bs=false from by rw[HJOIN.out,← Bool.and_assoc,← HJB.out];rfl)
           go_wp2
           go_meet
           exact⟨HJ3.out,HB3.out,HL3.out,HP3.out,hbx⟩
          case true =>
           have hjt:=HJB.out.symm
           simp only[Bool.and_eq_true,decide_eq_true_eq]at hjt
           obtain⟨L,rfl⟩:=Int.eq_ofNat_of_zero_le hjt.1
           have hLb:L<bs.length:=by omega
           have hgB:bs.getD L ⟨0,[]⟩=bs[L]:=by rw[List.getD_eq_getElem?_getD,List.getElem?_eq_getElem hLb];rfl
           have HJ3:=hid (show chb7 x wi k c bs=decide (hq7 x (bs[L]).stops ld (bs[L]).stops.length≤x.broom) from by
            rw[HJOIN.out,← Bool.and_assoc,← HJB.out,Int.toNat_natCast,hgB,Bool.true_and])
           have hB:=HB3.out
           obtain⟨g,cap,hv3,-,-,hgB',hRow⟩:=Row.of_owns hB.own (by omega)
           simp only[Value.slice.injEq]at hv3
           obtain⟨rfl,-,rfl⟩:=hv3
           have hjv:L<vs.length:=by rw[hB.len];exact hLb
           have hcl:=oi7 bs vs hB.len
           have hg:=ig7 bs vs L hLb hjv
           have c1':=hRow.cell (j:=2*L+1) (by omega)
           have cf:=hRow.frozen (2*L+1)
           rw[List.getElem?_eq_getElem (by omega),List.getElem?_eq_getElem (by omega)]at hg
           rw[Option.some.inj hg.2]at c1'
           have hro:=hB.rows L hLb hjv
           obtain⟨ua,uc,huv,hu1,hu2⟩:=eb7 hro
           rw[huv]at c1' hro
           have hxb:∀w,(Instr.indexAt 39 (.slice (some ⟨g,0,none⟩) bs.length bc) (.int .i64 (L:Int))).run Tryz.prog w = .ok (.pointer (some ⟨g,2*L,none⟩)) w:=fun w=>by
            have:=lh7 (c:=bc) Tryz.underlying39 np7 (a:=some ⟨g,0,none⟩) rfl hLb w
            rw[Nat.zero_add,Nat.mul_comm]at this
            exact this
           have hbk:=hok.bsB _ (List.getElem_mem hLb)
           obtain⟨sp,hsp⟩:∃sp,sp=(bs[L]).stops:=⟨_,rfl⟩
           rw[← hsp]at c1' hro hbk HJ3
           have hsc:∀j (h:j<sp.length),∃g9 d:Nat,ua=some ⟨g9,0,none⟩∧sp[j]=(d:Int)∧d<x.custs.length∧wv.cell? ⟨g9,j,none⟩=some (.int .i64 d):=fun j hj=>by
            obtain⟨g9,cap9,hv9,-,-,-,hR9⟩:=Row.of_owns hro (by omega)
            simp only[Value.slice.injEq]at hv9
            have:=hbk.2.2 _ (List.getElem_mem hj)
            obtain⟨d,hd⟩:=Int.eq_ofNat_of_zero_le this.1
            refine⟨g9,d,hv9.1,hd,by omega, ?_⟩
            have h3:=hR9.cell (j:=j) (by rw[List.length_map];exact hj)
            rw[List.getElem_map,hd]at h3
            exact h3
           have HSC:=hid hsc
           have HSB:=hid (job7 (x:=x) (l:=sp) (n:=ld) (by omega) (fun d hd=>by
            obtain⟨j,hj,rfl⟩:=List.getElem_of_mem hd
            obtain⟨_,d,-,e,hd2,-⟩:=hsc j hj
            rw[e]
            have:=(HCU.out d hd2).2
            omega))
           have HSS:=hid (fun j hj=>zab7 (x:=x) (l:=sp) (n:=ld) (j:=j) hj)
           have hspl:sp.length≤6:=by omega
           have HRO:=hid hro
           have HUV:=hid huv
           have HROW:=hid hRow
           have HSP:=hid hsp
           obtain⟨q0,q1,q2,q3,q4,q5,q6,q7,q8⟩:=wmc7 (X1.below hbx)
           obtain⟨pc0,pc1⟩:=ry7 HP3.out
           have HS0:=hid (show hq7 x sp ld 0=ld from by unfold hq7;simp)
           clear hjt hB hg hcl hsc hro huv hsp hbk hRow hgB
           go_wp2
           go_loopw [16,107] (fun sv' jv wx=>∃j:Nat,j≤sp.length∧jv = .int .i64 j∧sv' = .int .i64 (hq7 x sp ld j)∧wx=wv) (fun _ jv _=>sp.length-(intOf jv).toNat)
           case atStart=>exact⟨0,Nat.zero_le _,rfl,by rw[HS0.out],rfl⟩
           case round =>
            obtain⟨j,hj,rfl,rfl,hwe⟩:=hrel
            have hwe2:=hwe.symm
            subst hwe2
            have hsb:=HSB.out j hj
            by_cases hjt:j<sp.length
            ·obtain⟨g9,d,rfl,hd,hdl,gd⟩:=HSC.out j hjt
             have hxd:=nc7 (c:=uc) Tryz.underlying72 pt7 (a:=some ⟨g9,0,none⟩) (off:=0) rfl hjt
             rw[Nat.zero_add]at hxd
             have hcc:=HCU.out d hdl
             have gcd:=ea7 hby hcc.1
             have hxc:=HXC.out d hdl
             have hss:=HSS.out j hjt
             rw[hd]at hss
             have hcb2:=hcc.2
             obtain⟨ld2,hld2⟩:∃ld2,ld2=(fc7 x (d:Int)).load:=⟨_,rfl⟩
             rw[← hld2]at gcd hss hcb2
             obtain⟨su,hsu⟩:∃su,su=hq7 x sp ld j:=⟨_,rfl⟩
             rw[← hsu]at hss hsb ⊢
             have HSS2:=hid hss
             clear hsu hld2 hcc hd hss
             go_wp2
             go_roundw
             case rel=>exact⟨j+1,by omega,by go_num,by rw[HSS2.out],trivial⟩
             case measure=>simp[intOf];omega
            ·have hje:j=sp.length:=by omega
             subst hje
             obtain⟨su,hsu⟩:∃su,su=hq7 x sp ld sp.length:=⟨_,rfl⟩
             rw[← hsu]at HJ3 hsb ⊢
             clear hsu
             by_cases hle:su≤x.broom
             ·have HJ4:=hid (HJ3.out.trans (decide_eq_true hle))
              have HST2:=hid (show zc7 x wi k c bs=qeb7 bs L c from by rw[HSTEP.out,HJ4.out];rfl)
              have hrow:=HRO.out
              have o1:some wq.heap.size≠(Value.slice ua sp.length uc).ownBlock:=xc7 hrow HP3.out (by decide)
              have o2:some g≠(Value.slice ua sp.length uc).ownBlock:=xc7 hrow HROW.out (by decide)
              have hzp:=HP3.out.lt
              have hzg:=HROW.out.lt
              have hzl:=HL3.out.lt
              generalize hro:(Value.slice ua sp.length uc).ownBlock=row at *
              have HRW:=hid hro
              clear hro HSC HSB HSS
              go_wp2
              have z1:∀e:At (sb7 row wv),_:=fun e=>e.ok.cell pc1 o1
              have z2:∀e:At (sb7 row wv),_:=fun e=>e.ok.cell c1' o2
              refine qg7 (sb7 row wv) [14] [([0,1,2,3,4,5,6,7,8,9],10,false),([],11,false),([12],13,false),([],14,true)] (by kernel_rfl) (by kernel_rfl) (fun _ _ d _ _ h=>by cases d <;> exact h) (sb7.refl _ _).drew ?_
              simp only[kj7,List.map_cons,List.map_nil,Array.getD_eq_getD_getElem?,List.getElem?_toArray,List.getElem?_cons_succ,List.getElem?_cons_zero,Option.getD_some,dw7]
              repeat (go_big_quiet_step (fail))
              refine wpQuiet_nil ?_
              go_wp2_with fail
              have hS0:sb7 row wv (wv.alloc (.cells #[.int .i64 c] 3)).drew:=((sb7.refl row wv).below ((Below.refl _ _).alloc (Nat.le_refl _) _)).drew
              have hown1:=(hrow.alloc (.cells #[.int .i64 c] 3)).drew
              refine⟨hS0,wpQuiet_nil ?_⟩
              obtain⟨i1,hi,hi0,hi1,hi2⟩:=info_parts lbb7
              go_wp2_with (at_builtin;refine wpList_append_own_at _ rfl _ _ 72 rfl wq.heap.size 3 i1 (.int .i64 0) 1 8 Tryz.underlying72 hi hi0 hi1 hi2 rfl (by decide) _ _ _ rfl hown1 ⟨wv.heap.size,0,none⟩ 1 1 [.int .i64 c] rfl rfl ?c1 ?c2 ?c3 ?c4 ?c5 ?_)
              case c1=>exact cell_one_new _ _ _
              case c2=>intro u hu;simp at hu;subst hu;rfl
              case c3=>unfold maxLen;omega
              case c4=>omega
              case c5=>simp;omega
              intro v' w2 hown' hgrow _ hat
              obtain⟨ao',cp',hv',-,-⟩:=eb7 hown'
              subst hv'
              have hal:Below wv.heap.size wv ((wv.alloc (.cells #[.int .i64 c] 3)).drew):=((Below.refl _ _).alloc (Nat.le_refl _) _).drew
              have hevs:vs.getD L undef = .slice ua sp.length uc:=by rw[List.getD_eq_getElem?_getD,List.getElem?_eq_getElem hjv,Option.getD_some,HUV.out,HSP.out]
              have hBs:=(HB3.out.below hal).stops (k:=L) (u:=.slice ao' (sp.length+1) cp') (sp:=sp++[(c:Int)]) (by decide) hLb (by rw[hevs];exact hgrow) (by
               rw[List.length_append,List.map_append];exact hown') (by
               rw[hevs]
               rcases hat with h | h
               ·exact .inl h
               ·exact .inr (.inl ⟨_,h,by simp⟩))
              have HBS2:=hid (show zh7 75 3 (w2.setCell ⟨g,2*L+1,none⟩ (.slice ao' (sp.length+1) cp')) wq.heap.size (.slice (some ⟨g,0,none⟩) (zc7 x wi k c bs).length bc) (zc7 x wi k c bs) (vs.set L (.slice ao' (sp.length+1) cp')) from by
               have e:qeb7 bs L c=bs.set L ⟨(bs.getD L ⟨0,[]⟩).sat,sp++[(c:Int)]⟩:=by
                unfold qeb7
                rw[HSP.out,List.getD_eq_getElem?_getD,List.getElem?_eq_getElem hLb];rfl
               rw[HST2.out,e,List.length_set];exact hBs)
              have HL4:=hid ((((HL3.out.alloc (.cells #[.int .i64 c] 3)).drew).grown hown1 (by decide) hgrow).setOther (a:=⟨g,2*L+1,none⟩) (HL3.out.ne HROW.out (by decide)) (.slice ao' (sp.length+1) cp'))
              have HP4:=hid ((((HP3.out.alloc (.cells #[.int .i64 c] 3)).drew).grown hown1 (by decide) hgrow).setOther (a:=⟨g,2*L+1,none⟩) (HP3.out.ne HROW.out (by decide)) (.slice ao' (sp.length+1) cp'))
              have hR4:=((HROW.out.alloc (.cells #[.int .i64 c] 3)).drew).grown hown1 (by decide) hgrow
              have hf4:=hR4.frozen (2*L+1)
              have hc4:=hR4.cell (j:=2*L+1) (by rw[oi7 bs vs HB3.out.len];omega)
              obtain⟨cv4,hcv4⟩:∃cv4,cv4=(fe7 bs vs)[2*L+1]'(by rw[oi7 bs vs HB3.out.len];omega):=⟨_,rfl⟩
              rw[← hcv4]at hc4
              have hS1:=hS0.grown (by rw[HRW.out]at hgrow;exact hgrow)
              have hBb:=td7 (w:=(wv.alloc (.cells #[.int .i64 c] 3)).drew) (hbx.alloc hszv _).drew hown1 (by simp;omega) (Nat.le_refl _) hgrow
              have HX4:=hid (hBb.setCell (p:=⟨g,2*L+1,none⟩) hgB' (.slice ao' (sp.length+1) cp'))
              have HBL:=hid (show (zc7 x wi k c bs).length=bs.length from by rw[HST2.out];unfold qeb7;rw[List.length_set])
              clear hown' hgrow hown1 hi hi0 hi1 hi2 hat hal hBs hR4 hBb hcv4
              refine⟨hS1, ?_⟩
              repeat (go_big_quiet_step (fail))
              refine wpQuiet_nil ?_
              go_wp2_with fail
              refine⟨hS1,wpQuiet_nil ?_⟩
              go_wp2
              go_roundw
              case rel=>exact⟨k+1,wd7 x wi c lo,zc7 x wi k c bs,some ⟨g,0,none⟩,bc,vs.set L (.slice ao' (sp.length+1) cp'),by omega,by go_num,HST.out,HBS2.out,HL4.out,by rw[HBL.out];exact HP4.out,HX4.out⟩
              case measure=>simp[intOf];omega
             ·have HJ4:=hid (HJ3.out.trans (decide_eq_false hle))
              go_wp2
              go_meet
              exact⟨HJ4.out,HB3.out,HL3.out,HP3.out,hbx⟩
         case rest =>
          clear HB3 HL3 HP3 hby hbx
          obtain⟨hj0,hB,hL,hP,hbx⟩:=hcut
          obtain⟨wv,rfl⟩:∃wv:World,wv=wc:=⟨_,rfl⟩
          have hszv:=hbx.size
          have HST2:=hid (show zc7 x wi k c bs=bs++[⟨sv,[(c:Int)]⟩] from by rw[HSTEP.out,hj0];rfl)
          obtain⟨pc0,pc1⟩:=ry7 hP
          have hzp:=hP.lt
          have HB3:=hid hB
          have HL3:=hid hL
          have HP3:=hid hP
          clear hB hL hP hj0
          obtain⟨i1,hi,hi0,hi1,hi2⟩:=info_parts qhb7
          have hown1:=(HB3.out.own.alloc (.cells #[.int .i64 c] 3)).alloc (.cells #[.int .i64 sv,.slice (some ⟨wv.heap.size,0,none⟩) 1 1] 75)
          go_wp2_with (at_builtin;refine wpList_append_own_at _ rfl _ _ 39 rfl wq.heap.size 75 i1 (.agg #[.int .i64 0,.slice none 0 0]) 2 32 Tryz.underlying39 hi hi0 hi1 hi2 rfl (by decide) _ _ _ rfl hown1 ⟨wv.heap.size+1,0,none⟩ 1 1 [.int .i64 sv,.slice (some ⟨wv.heap.size,0,none⟩) 1 1] rfl rfl ?c1 ?c2 ?c3 ?c4 ?c5 ?_)
          case c1=>exact dn7 (cs:=[.int .i64 sv,.slice (some ⟨wv.heap.size,0,none⟩) 1 1]) (by simp) _
          case c2=>intro u hu;simp at hu;rcases hu with rfl | rfl <;> rfl
          case c3=>unfold maxLen;omega
          case c4=>omega
          case c5=>simp;omega
          intro v' w2 hown' hgrow _ hat
          obtain⟨ao',cp',hv',-,-⟩:=eb7 hown'
          subst hv'
          have hal:Below wv.heap.size wv ((wv.alloc (.cells #[.int .i64 c] 3)).alloc (.cells #[.int .i64 sv,.slice (some ⟨wv.heap.size,0,none⟩) 1 1] 75)):=((Below.refl _ _).alloc (Nat.le_refl _) _).alloc (by simp) _
          have hu:=((World.ownsRow_lit (base:=wq.heap.size) (e:=3) (size:=1) wv #[.int .i64 c] 1 hszv (by unfold maxLen;omega) rfl).alloc (.cells #[.int .i64 sv,.slice (some ⟨wv.heap.size,0,none⟩) 1 1] 75))
          have hBp:=(HB3.out.below hal).push (b:=⟨sv,[(c:Int)]⟩) (u:=.slice (some ⟨wv.heap.size,0,none⟩) 1 1) (by decide) hgrow hown' hu (fun i hi=>by
           have hlt:=HB3.out.blockLt i hi
           constructor
           ·cases e:vs[i].ownBlock with
            | none=>exact .inl rfl
            | some b =>
             refine .inr fun e'=>?_
             have h1:=hlt b e
             have h2:=Option.some.inj e'
             simp only at h2
             omega
           ·refine .inr fun e'=>?_
            have h1:=hlt _ e'.symm
            simp only at h1
            omega)
          have hP2:=((HP3.out.alloc (.cells #[.int .i64 c] 3)).alloc (.cells #[.int .i64 sv,.slice (some ⟨wv.heap.size,0,none⟩) 1 1] 75)).grown hown1 (by decide) hgrow
          have hL2:=((HL3.out.alloc (.cells #[.int .i64 c] 3)).alloc (.cells #[.int .i64 sv,.slice (some ⟨wv.heap.size,0,none⟩) 1 1] 75)).grown hown1 (by decide) hgrow
          have HBL:=hid (show (zc7 x wi k c bs).length=bs.length+1 from by rw[HST2.out];simp)
          have HB4:=hid (show zh7 75 3 (w2.setCell ⟨wq.heap.size,1,none⟩ (.slice ao' (bs.length+1) cp')) wq.heap.size (.slice ao' (zc7 x wi k c bs).length cp') (zc7 x wi k c bs) (vs++[.slice (some ⟨wv.heap.size,0,none⟩) 1 1]) from by
           rw[HBL.out,HST2.out];exact hBp.keptSet hP2 (by decide) (by decide))
          have HL4:=hid (hL2.setOther (a:=⟨wq.heap.size,1,none⟩) (by show wq.heap.size+1≠wq.heap.size;omega) (.slice ao' (bs.length+1) cp'))
          have HP4:=hid (show Row (w2.setCell ⟨wq.heap.size,1,none⟩ (.slice ao' (bs.length+1) cp')) wq.heap.size 41 [.slice none 0 0,.slice ao' (bs.length+1) cp'] from hP2.set (j:=1) (by simp) _)
          have hBb:=td7 (w:=(wv.alloc (.cells #[.int .i64 c] 3)).alloc (.cells #[.int .i64 sv,.slice (some ⟨wv.heap.size,0,none⟩) 1 1] 75)) ((hbx.alloc hszv _).alloc (by simp;omega) _) hown1 (by simp;omega) (Nat.le_refl _) hgrow
          have HX4:=hid (hBb.setCell (p:=⟨wq.heap.size,1,none⟩) (Nat.le_refl _) (.slice ao' (bs.length+1) cp'))
          obtain⟨pd0,pd1⟩:=ry7 hP2
          have pf1:=hP2.frozen 1
          clear hown' hgrow hown1 hi hi0 hi1 hi2 hat hal hu hBp hP2 hL2 hBb
          go_wp2
          go_roundw
          case rel=>exact⟨k+1,wd7 x wi c lo,zc7 x wi k c bs,ao',cp',vs++[.slice (some ⟨wv.heap.size,0,none⟩) 1 1],by omega,by go_num,HST.out,HB4.out,HL4.out,by rw[HBL.out];exact HP4.out,HX4.out⟩
          case measure=>simp[intOf];omega
    ·have hke:k=os.length:=by omega
     subst hke
     have hok:=HOK.out os.length (Nat.le_refl _)
     rw[hst]at hok
     have HD:=hid (show fg7 x wi=⟨(dUp x wi lo lo.length).1,bs⟩ from by rw[HOS.out,hst])
     have hlL:=hok.loL
     have hlv:∀s,0≤lo.getD s 0∧lo.getD s 0≤6000:=fun s=>by
      rw[List.getD_eq_getElem?_getD]
      by_cases hs:s<lo.length
      ·rw[List.getElem?_eq_getElem hs]
       have:=hok.loB _ (List.getElem_mem hs)
       exact⟨this.1,by have:=this.2;simp only[Option.getD_some];omega⟩
      ·rw[List.getElem?_eq_none (by omega)];simp
     have HLV:=hid hlv
     have HLL:=hid hlL
     have HB3:=hid hB
     have HL3:=hid hL
     have HP3:=hid hP
     have HX3:=hid hbx
     have hnl:¬((os.length:Int)<(x.custs.length:Int)):=by omega
     clear hkc hlt2 hk hst hok hlv hlL hB hL hP hby hbx
     go_wp2
     go_loopw [19,151] (fun lv i wr=>∃(s:Nat) (out:List (List ba7)) (left:Int) (ta:Option Addr) (tc:Nat) (ts:List Value),s≤x.sats.length∧i = .int .i64 s∧lv = .int .i64 left∧dUp x wi lo s=(out,left) ∧
       xh7 69 66 wr wq.heap.size (.slice ta out.length tc) out ts∧ie7 x.troom (6000*s) out left∧zh7 75 3 wr wq.heap.size (.slice ba bs.length bc) bs vs ∧
       Row wr (wq.heap.size+1) 2 (lo.map jc7)∧Row wr wq.heap.size 41 [.slice ta out.length tc,.slice ba bs.length bc]∧Below wq.heap.size wq wr) (fun _ i _=>x.sats.length-(intOf i).toNat)
     case atStart=>exact⟨0,[],0,none,0,[],Nat.zero_le _,rfl,rfl,rfl,xh7.nil _ _ _ _,ie7.nil (by omega),HB3.out,HL3.out,HP3.out,HX3.out⟩
     case round =>
      clear HB3 HL3 HP3 HX3
      obtain⟨s,out,left,ta,tc,ts,hs,rfl,rfl,hdu,hT,hU,hB,hL,hP,hbx⟩:=hrel
      obtain⟨wp,rfl⟩:∃wp:World,wp=wr:=⟨_,rfl⟩
      by_cases hst:s<x.sats.length
      ·have hxl:=nc7 (c:=x.sats.length) Tryz.underlying60 zq7 (a:=some ⟨wq.heap.size+1,0,none⟩) (off:=0) rfl hst
       rw[Nat.zero_add]at hxl
       have hslL:s<(lo.map jc7).length:=by rw[List.length_map,HLL.out];exact hst
       have gl0:=hL.cell hslL
       rw[List.getElem_map]at gl0
       have hgd:lo.getD s 0=lo[s]'(by rw[HLL.out];exact hst):=by rw[List.getD_eq_getElem?_getD,List.getElem?_eq_getElem (by rw[HLL.out];exact hst)];rfl
       have hnb:=HLV.out s
       obtain⟨n0,hn0⟩:∃n0,n0=lo.getD s 0:=⟨_,rfl⟩
       rw[← hn0]at hnb
       rw[← hgd,← hn0]at gl0
       unfold jc7 at gl0
       have HDU:=hid (show dUp x wi lo (s+1)=bx7 x.tmany x.troom (bsb7 wi s) s n0.toNat n0 (out,left) from by
        show bx7 x.tmany x.troom (bsb7 wi s) s (lo.getD s 0).toNat (lo.getD s 0) (dUp x wi lo s)=_
        rw[hdu,← hn0])
       obtain⟨q,hq⟩:∃q,q=bsb7 wi s:=⟨_,rfl⟩
       rw[← hq]at HDU
       have HQ:=hid hq
       have HT3:=hid hT
       have HU3:=hid hU
       have HB3:=hid hB
       have HL3:=hid hL
       have HP3:=hid hP
       have HX3:=hid hbx
       clear hn0 hgd hslL hdu hq hT hU hB hL hP hbx
       go_wp2
       go_loopw [19,21] (fun lv nv wx=>∃(f:Nat) (n:Int) (out2:List (List ba7)) (left2:Int) (ta:Option Addr) (tc:Nat) (ts:List Value),nv = .int .i64 n∧(0≤n∧n≤n0)∧n.toNat≤f∧lv = .int .i64 left2 ∧
         bx7 x.tmany x.troom q s n0.toNat n0 (out,left)=bx7 x.tmany x.troom q s f n (out2,left2) ∧
         xh7 69 66 wx wq.heap.size (.slice ta out2.length tc) out2 ts∧ie7 x.troom (6000*s+(n0-n).toNat) out2 left2∧zh7 75 3 wx wq.heap.size (.slice ba bs.length bc) bs vs ∧
         Row wx (wq.heap.size+1) 2 (lo.map jc7)∧Row wx wq.heap.size 41 [.slice ta out2.length tc,.slice ba bs.length bc]∧Below wq.heap.size wq wx) (fun _ nv _=>(intOf nv).toNat)
       case atStart =>
        exact⟨n0.toNat,n0,out,left,ta,tc,ts,rfl,⟨hnb.1,Int.le_refl _⟩,Nat.le_refl _,rfl,rfl,HT3.out,by rw[Int.sub_self];exact HU3.out,HB3.out,HL3.out,HP3.out,HX3.out⟩
       case round =>
        clear gl0 HT3 HU3 HB3 HL3 HP3 HX3
        obtain⟨f,n,out2,left2,ta2,tc2,ts2,rfl,hn,hf,rfl,hdo,hT,hU,hB,hL,hP,hbx⟩:=hrel
        obtain⟨wz,rfl⟩:∃wz:World,wz=wr:=⟨_,rfl⟩
        by_cases hpos:0<n
        ·obtain⟨f',rfl⟩:∃f',f=f'+1:=⟨f-1,by omega⟩
         have hby:=pa7 hb hbx
         have hszz:=hbx.size
         have hlb2:=hU.leftB
         have hob2:=hU.lenB
         obtain⟨o3,l3,hrd,hl3,hl3r,ho3,ho3l,hst3⟩:=hU.readyQ (many:=x.tmany) (q:=q) htr.1
         have HRD:=hid hrd
         have HST3:=hid hst3
         have hcnt:6000*s+(n0-n).toNat≤18000:=by omega
         have HDO:=hid (show bx7 x.tmany x.troom q s n0.toNat n0 (out,left)=bx7 x.tmany x.troom q s f' (n-min n l3) (cb7 o3 ⟨s,min n l3⟩,l3-min n l3) from by
          rw[hdo]
          show (if n≤0 then _ else _)=_
          rw[if_neg (by omega),hrd])
         have HT4:=hid hT
         have HB4:=hid hB
         have HL4:=hid hL
         have HP4:=hid hP
         obtain⟨q0,q1,q2,q3,q4,q5,q6,q7,q8⟩:=wmc7 (X1.below hbx)
         have w2':=(W1.below hbx).cell (j:=2) (by simp)
         simp only[List.getElem_cons_succ,List.getElem_cons_zero]at w2'
         obtain⟨y1,y2,y3,y4,hwc,-,-,-,-,-,-⟩:=ve7 HWC.out
         obtain rfl:=List.cons.inj hwc |>.1
         obtain⟨pc0,pc1⟩:=ry7 hP
         have hzp:=hP.lt
         have hzx2:=(X1.below hbx).lt
         have HAT:=hid (wrc7 (yc7.below HWC.out hby) (show s<1000000 by omega))
         obtain⟨av,hav⟩:∃av,av=atD wi.cuts s:=⟨_,rfl⟩
         have hab:=zbc7 HBC.out s
         rw[← hav]at hab HAT
         have HQV:=hid (show q=decide (av % 7=6) from by rw[HQ.out];unfold bsb7;rw[← hav])
         obtain⟨jb,hjb⟩:∃jb,jb=(decide (left2=0) || (q&&decide ((out2.length:Int)<x.tmany))):=⟨_,rfl⟩
         have HJB:=hid hjb
         clear hwc hav hjb hrd hst3 hdo hT hU hB hL hP
         go_upto_region 37 with fail
         go_cut [176] (fun jv wx=>jv = .bool jb∧wx=wz)
         case first =>
          by_cases hz:left2=0
          ·have e1:(left2==0)=true:=by simpa using hz
           have HJ2:=hid (show jb=true from by rw[HJB.out,decide_eq_true hz];rfl)
           go_wp2
           go_meet
           exact⟨by rw[HJ2.out],rfl⟩
          ·have e1:(left2==0)=false:=by simpa using hz
           have HJ2:=hid (show jb=(q&&decide ((out2.length:Int)<x.tmany)) from by rw[HJB.out,decide_eq_false hz];rfl)
           clear hz
           by_cases hq6:av % 7=6
           ·have e2:(av % 7==6)=true:=by simpa using hq6
            have HJ3:=hid (show jb=decide ((out2.length:Int)<x.tmany) from by rw[HJ2.out,HQV.out,decide_eq_true hq6];rfl)
            clear hq6
            go_wp2_with fail
            refine HAT.out.mono ?_
            rintro e w' ⟨rfl,rfl⟩
            go_wp2
            go_meet
            exact⟨by rw[HJ3.out],rfl⟩
           ·have e2:(av % 7==6)=false:=by simpa using hq6
            have HJ3:=hid (show jb=false from by rw[HJ2.out,HQV.out,decide_eq_false hq6];rfl)
            clear hq6
            go_wp2_with fail
            refine HAT.out.mono ?_
            rintro e w' ⟨rfl,rfl⟩
            go_wp2
            go_meet
            exact⟨by rw[HJ3.out],rfl⟩
         case rest =>
          obtain⟨rfl,rfl⟩:=hcut
          obtain⟨wv,rfl⟩:∃wv:World,wv=wc:=⟨_,rfl⟩
          clear HAT w2'
          go_upto_if 176 with fail
          go_cut [19] (fun lv wx=>∃(ta:Option Addr) (tc:Nat) (ts:List Value),lv = .int .i64 l3∧xh7 69 66 wx wq.heap.size (.slice ta o3.length tc) o3 ts∧zh7 75 3 wx wq.heap.size (.slice ba bs.length bc) bs vs ∧
            Row wx (wq.heap.size+1) 2 (lo.map jc7)∧Row wx wq.heap.size 41 [.slice ta o3.length tc,.slice ba bs.length bc]∧Below wq.heap.size wq wx)
          case first =>
           cases jb
           case true =>
            have HE:=hid (show (out2++[[]],x.troom)=(o3,l3) from by
             rw[← HRD.out]
             unfold readyQ
             have:=HJB.out.symm
             simp only[Bool.or_eq_true,Bool.and_eq_true,decide_eq_true_eq]at this
             rw[if_pos this])
            have hrow:=HT4.out.own
            have o1:some wq.heap.size≠(Value.slice ta2 out2.length tc2).ownBlock:=xc7 hrow HP4.out (by decide)
            have o2:some w.heap.size≠(Value.slice ta2 out2.length tc2).ownBlock:=mpb7 hrow hzx
            generalize hro:(Value.slice ta2 out2.length tc2).ownBlock=row at *
            have HRO2:=hid hro
            clear hro
            go_wp2
            have z1:∀e:At (sb7 row wv),_:=fun e=>e.ok.cell pc0 o1
            haveI:Nonempty (At (CellIs ⟨w.heap.size,2,none⟩ (.int .i64 x.troom))):=⟨⟨wv,q2⟩⟩
            have z2:∀e:At (CellIs ⟨w.heap.size,2,none⟩ (.int .i64 x.troom)),e.val.cell? ⟨w.heap.size,2,none⟩=some (.int .i64 x.troom):=fun e=>e.ok
            refine sy7 (sb7 row wv) (CellIs ⟨w.heap.size,2,none⟩ (.int .i64 x.troom)) [9,10] [5,6,7] [([0,1,2],3,false),([],4,false),([],8,false),([],9,true),([],10,true)] (by kernel_rfl) (by kernel_rfl) (fun _ _ d _ _ h=>by cases d <;> exact h) (fun w' h=>h.cell q2 o2) (sb7.refl _ _).drew ?_
            simp only[List.map_cons,List.map_nil,Array.getD_eq_getD_getElem?,List.getElem?_toArray,List.getElem?_cons_succ,List.getElem?_cons_zero,Option.getD_some]
            repeat (go_big_quiet_step (fail))
            refine wpQuiet_nil ?_
            simp only[kj7,List.map_cons,List.map_nil,Array.getD_eq_getD_getElem?,List.getElem?_toArray,List.getElem?_cons_succ,List.getElem?_cons_zero,Option.getD_some,wv7]
            repeat (go_big_quiet_step (fail))
            refine wpQuiet_nil ?_
            go_wp2_with fail
            have hS0:sb7 row wv (wv.alloc (.cells #[.slice none 0 0] 69)).drew:=((sb7.refl row wv).below ((Below.refl _ _).alloc (Nat.le_refl _) _)).drew
            have hown1:=(hrow.alloc (.cells #[.slice none 0 0] 69)).drew
            refine⟨hS0,wpQuiet_nil ?_⟩
            obtain⟨i1,hi,hi0,hi1,hi2⟩:=info_parts iab7
            go_wp2_with (at_builtin;refine wpList_append_own _ rfl _ _ 38 rfl wq.heap.size 69 i1 (.agg #[.slice none 0 0]) 1 24 Tryz.underlying38 hi hi0 hi1 hi2 rfl (by decide) _ _ _ rfl hown1 ⟨wv.heap.size,0,none⟩ 1 1 [.slice none 0 0] rfl rfl ?c1 ?c2 ?c3 ?c4 ?c5 ?_)
            case c1=>exact cell_one_new _ _ _
            case c2=>intro u hu;simp at hu;subst hu;rfl
            case c3=>unfold maxLen;omega
            case c4=>omega
            case c5=>simp;omega
            intro v' w2 hown' hgrow _
            obtain⟨ao',cp',hv',-,-⟩:=eb7 hown'
            subst hv'
            have hal:Below wv.heap.size wv ((wv.alloc (.cells #[.slice none 0 0] 69)).drew):=((Below.refl _ _).alloc (Nat.le_refl _) _).drew
            have hS1:=hS0.grown (by rw[HRO2.out]at hgrow;exact hgrow)
            have hTp:=(HT4.out.below hal).push (by decide) hgrow hown'
            have hBk:=(HB4.out.below hal).keptOwn hown1 hgrow (by decide) (by decide)
            have hLk:=((HL4.out.alloc (.cells #[.slice none 0 0] 69)).drew).grown hown1 (by decide) hgrow
            have hPk:=((HP4.out.alloc (.cells #[.slice none 0 0] 69)).drew).grown hown1 (by decide) hgrow
            have e1:=congrArg Prod.fst HE.out
            have e2:=congrArg Prod.snd HE.out
            simp only at e1 e2
            have e3:o3.length=out2.length+1:=by rw[← e1];simp
            have HT5:=hid (show xh7 69 66 (w2.setCell ⟨wq.heap.size,0,none⟩ (.slice ao' (out2.length+1) cp')) wq.heap.size (.slice ao' o3.length cp') o3 (ts2++[.slice none 0 0]) from by
             rw[e3,← e1];exact hTp.keptSet hPk (by decide) (by decide))
            have HB5:=hid (hBk.keptSet (j:=0) (u:=.slice ao' (out2.length+1) cp') hPk (by decide) (by decide))
            have HL5:=hid (hLk.setOther (a:=⟨wq.heap.size,0,none⟩) (by show wq.heap.size+1≠wq.heap.size;omega) (.slice ao' (out2.length+1) cp'))
            have HP5:=hid (show Row (w2.setCell ⟨wq.heap.size,0,none⟩ (.slice ao' (out2.length+1) cp')) wq.heap.size 41 [.slice ao' o3.length cp',.slice ba bs.length bc] from by
             rw[e3];exact hPk.set (j:=0) (by simp) _)
            have hBb:=td7 (w:=(wv.alloc (.cells #[.slice none 0 0] 69)).drew) (hbx.alloc hszz _).drew hown1 (by simp;omega) (Nat.le_refl _) hgrow
            have HX5:=hid (hBb.setCell (p:=⟨wq.heap.size,0,none⟩) (Nat.le_refl _) (.slice ao' (out2.length+1) cp'))
            have HE2:=hid e2
            have HTT:=hid (show (w2.setCell ⟨wq.heap.size,0,none⟩ (.slice ao' (out2.length+1) cp')).cell? ⟨w.heap.size,2,none⟩=some (.int .i64 x.troom) from
             (World.cell?_of_block (w:=w2) (Below.heap_setCell _ _ _ _ (by show w.heap.size≠wq.heap.size;omega))).trans (hS1.cell q2 o2))
            obtain⟨pd0,pd1⟩:=ry7 hPk
            have pf0:=hPk.frozen 0
            clear hown' hgrow hown1 hi hi0 hi1 hi2 hS0 hal hTp hBk hLk hPk hBb e1 e2 e3
            refine⟨hS1, ?_⟩
            refine wpQuiet_nil ?_
            go_wp2_with fail
            refine⟨hS1,wpQuiet_nil ?_⟩
            go_wp2
            refine⟨HTT.out,wpQuiet_nil ?_⟩
            go_wp2
            refine⟨HTT.out, ?_⟩
            go_wp2
            go_meet
            exact⟨ao',cp',ts2++[.slice none 0 0],by rw[HE2.out],HT5.out,HB5.out,HL5.out,HP5.out,HX5.out⟩
           case false =>
            have HE:=hid (show (out2,left2)=(o3,l3) from by
             rw[← HRD.out]
             unfold readyQ
             have:=HJB.out.symm
             simp only[Bool.or_eq_false_iff,Bool.and_eq_false_iff,decide_eq_false_iff_not]at this
             rw[if_neg (by
              rintro (h | ⟨h1,h2⟩)
              ·exact this.1 h
              ·rcases this.2 with h3 | h3
               ·rw[h1]at h3;cases h3
               ·exact h3 h2)])
            have e1:=congrArg Prod.fst HE.out
            have e2:=congrArg Prod.snd HE.out
            simp only at e1 e2
            subst e1
            subst e2
            go_wp2
            go_meet
            exact⟨ta2,tc2,ts2,rfl,HT4.out,HB4.out,HL4.out,HP4.out,hbx⟩
          case rest =>
           clear HT4 HB4 HL4 HP4 hbx hby hszz pc0 pc1 q0 q1 q2 q3 q4 q5 q6 q7 q8 hzp
           obtain⟨ta3,tc3,ts3,rfl,hT,hB,hL,hP,hbx⟩:=hcut
           obtain⟨wu,rfl⟩:∃wu:World,wu=wc:=⟨_,rfl⟩
           have hszu:=hbx.size
           have hl3':o3.length-1<ts3.length:=by rw[hT.len];omega
           have hlx:o3.length-1<o3.length:=by omega
           have ev:ts3.getD (o3.length-1) undef=ts3[o3.length-1]:=by rw[List.getD_eq_getElem?_getD,List.getElem?_eq_getElem hl3'];rfl
           have eo:lastT o3=o3[o3.length-1]:=by unfold lastT;rw[List.getD_eq_getElem?_getD,List.getElem?_eq_getElem hlx];rfl
           have hro:=hT.rows _ hlx hl3'
           rw[← ev,← eo]at hro
           obtain⟨a9,c9,hv9,-,-⟩:=eb7 hro
           obtain⟨g,cap,hv3,-,-,hgB,hRow⟩:=Row.of_owns hT.own ho3
           simp only[Value.slice.injEq]at hv3
           obtain⟨rfl,-,rfl⟩:=hv3
           have hgc:=hRow.cell hl3'
           have hgf:=hRow.frozen (o3.length-1)
           have hgl:=hRow.lt
           rw[← ev,hv9]at hgc
           rw[hv9]at hro
           have htl:=(HST3.out _ (ny7 ho3)).1
           have hix:∀w,(Instr.indexAt 38 (.slice (some ⟨g,0,none⟩) o3.length tc3) (.int .i64 ((o3.length:Int)-1))).run Tryz.prog w = .ok (.pointer (some ⟨g,o3.length-1,none⟩)) w:=fun w=>by
            have:=nc7 (c:=tc3) Tryz.underlying38 on7 (a:=some ⟨g,0,none⟩) rfl hlx w
            rw[show ((o3.length-1:Nat):Int)=(o3.length:Int)-1 by omega,Nat.zero_add]at this
            exact this
           have h1L:(1:Int)≤(o3.length:Int):=by omega
           have h2L:(o3.length:Int)≤20000:=by omega
           obtain⟨tl,htl'⟩:∃tl,tl=lastT o3:=⟨_,rfl⟩
           rw[← htl']at hgc htl hro hv9
           have HTL:=hid htl'
           have HV9:=hid hv9
           have HT4:=hid hT
           have HB4:=hid hB
           have HL4:=hid hL
           have HP4:=hid hP
           have HRO:=hid hro
           have HROW:=hid hRow
           obtain⟨pc0,pc1⟩:=ry7 hP
           have hzp:=hP.lt
           have hmn:1≤min n l3∧min n l3≤n∧min n l3≤l3:=by omega
           have HU6:=hid (ie7.batch (room:=x.troom) (s:=s) ⟨hl3,hl3r⟩ ⟨ho3,ho3l⟩ HST3.out ⟨hmn.1,hmn.2.2⟩ (by omega))
           have HN0:=hid (show 6000*s+(n0-n).toNat+(min n l3).toNat=6000*s+(n0-(n-min n l3)).toNat from by omega)
           rw[HN0.out]at HU6
           clear hT hB hL hP hro hRow htl' hv9 ev eo hlx
           obtain⟨i1,hi,hi0,hi1,hi2⟩:=info_parts jhb7
           have hown1:=HRO.out.alloc (.cells #[.int .i64 s,.int .i64 (min n l3)] 66)
           go_wp2_with (at_builtin;refine wpList_append_own_at _ rfl _ _ 67 rfl wq.heap.size 66 i1 (.agg #[.int .i64 0,.int .i64 0]) 2 16 Tryz.underlying67 hi hi0 hi1 hi2 rfl (by decide) _ _ _ rfl hown1 ⟨wu.heap.size,0,none⟩ 1 1 [.int .i64 s,.int .i64 (min n l3)] rfl rfl ?c1 ?c2 ?c3 ?c4 ?c5 ?_)
           case c1=>exact dn7 (cs:=[.int .i64 s,.int .i64 (min n l3)]) rfl _
           case c2=>intro u hu;simp at hu;rcases hu with rfl | rfl <;> rfl
           case c3=>unfold maxLen;omega
           case c4=>omega
           case c5=>simp;omega
           intro v' w2 hown' hgrow _ hat
           obtain⟨ao',cp',hv',-,-⟩:=eb7 hown'
           subst hv'
           have hal:Below wu.heap.size wu (wu.alloc (.cells #[.int .i64 s,.int .i64 (min n l3)] 66)):=(Below.refl _ _).alloc (Nat.le_refl _) _
           have hRow2:=(HROW.out.alloc (.cells #[.int .i64 s,.int .i64 (min n l3)] 66)).grown hown1 (by decide) hgrow
           have r0:=hRow2.cell hl3'
           have r1:=hRow2.frozen (o3.length-1)
           obtain⟨rv,hrv⟩:∃rv,rv=ts3[o3.length-1]:=⟨_,rfl⟩
           rw[← hrv]at r0
           have HT6:=hid ((HT4.out.below hal).stop (s:=⟨s,min n l3⟩) (u:=.slice ao' (tl.length+1) cp') (by decide) ho3 (by rw[HV9.out];exact hgrow) (by rw[show o3.getD (o3.length-1) []=tl from HTL.out.symm];exact hown') (by
            rw[HV9.out]
            rcases hat with h | h
            ·exact .inl h
            ·exact .inr ⟨_,h,by simp⟩))
           have HB6:=hid (((HB4.out.below hal).keptOwn hown1 hgrow (by decide) (by decide)).keptSet (j:=o3.length-1) (u:=.slice ao' (tl.length+1) cp') hRow2 (by decide) (by decide))
           have HL6:=hid (((HL4.out.alloc (.cells #[.int .i64 s,.int .i64 (min n l3)] 66)).grown hown1 (by decide) hgrow).setOther (a:=⟨g,o3.length-1,none⟩) (HL4.out.ne HROW.out (by decide)) (.slice ao' (tl.length+1) cp'))
           have HP6:=hid (((HP4.out.alloc (.cells #[.int .i64 s,.int .i64 (min n l3)] 66)).grown hown1 (by decide) hgrow).setOther (a:=⟨g,o3.length-1,none⟩) (HP4.out.ne HROW.out (by decide)) (.slice ao' (tl.length+1) cp'))
           have hB2:=td7 (w:=wu.alloc (.cells #[.int .i64 s,.int .i64 (min n l3)] 66)) (hbx.alloc hszu _) hown1 (by simp;omega) (Nat.le_refl _) hgrow
           have HX6:=hid (hB2.setCell (p:=⟨g,o3.length-1,none⟩) hgB (.slice ao' (tl.length+1) cp'))
           have HAL:=hid (fp7 o3 ⟨s,min n l3⟩)
           clear hown' hgrow hown1 hi hi0 hi1 hi2 hat hal hB2 hRow2 hrv hgc hgf
           go_wp2
           go_roundw
           case rel=>exact⟨f',n-min n l3,cb7 o3 ⟨s,min n l3⟩,l3-min n l3,some ⟨g,0,none⟩,tc3,ts3.set (o3.length-1) (.slice ao' (tl.length+1) cp'),rfl,by omega,by omega,rfl,HDO.out,HT6.out,HU6.out,HB6.out,HL6.out,by rw[HAL.out];exact HP6.out,HX6.out⟩
           case measure=>simp[intOf];omega
        ·have HDN:=hid (hdo.trans (ufb7 (show n≤0 by omega)))
         have HT4:=hid hT
         have HU4:=hid (show ie7 x.troom (6000*(s+1)) out2 left2 from ⟨hU.leftB,by have:=hU.lenB;omega,hU.someB,fun t ht=>by
          have:=hU.stB t ht
          exact⟨by omega,fun u hu=>by have:=this.2 u hu;omega⟩⟩)
         have HB4:=hid hB
         have HL4:=hid hL
         have HP4:=hid hP
         have HDU2:=hid (show dUp x wi lo (s+1)=(out2,left2) from by rw[HDU.out,HDN.out])
         clear hdo hT hU hB hL hP
         go_wp2
         go_roundw
         case rel=>exact⟨s+1,out2,left2,ta2,tc2,ts2,by omega,by go_num,rfl,HDU2.out,HT4.out,HU4.out,HB4.out,HL4.out,HP4.out,hbx⟩
         case measure=>simp[intOf];omega
      ·have hse:s=x.sats.length:=by omega
       have HE:=hid (show fg7 x wi=⟨out,bs⟩ from by rw[HD.out,HLL.out,← hse,hdu])
       obtain⟨pc0,pc1⟩:=ry7 hP
       have hR2:=P1.below hbx
       obtain⟨rc0,rc1⟩:=ry7 hR2
       have rf0:=hR2.frozen 0
       have rf1:=hR2.frozen 1
       have hn1:w.heap.size+2≠wq.heap.size:=by have:=P1.lt;omega
       have HTF:=hid hT
       have HBF:=hid hB
       have HRF:=hid hR2
       have HBX:=hid (pa7 hb hbx)
       have HPF:=hid hP
       subst hse
       clear hdu hT hU hB hL hP hR2 hbx
       go_wp2
       have hR5:=HRF.out.set (j:=0) (by simp) (.slice ta out.length tc)
       refine bodyPost_ret (v:=.agg #[.slice ta out.length tc,.slice ba bs.length bc]) (by simp[results,Tryz.results20,go_sem,rc0,rc1]) rfl ⟨_,_,ts,vs,rfl, ?_, ?_, ?_⟩
       ·rw[HE.out]
        exact ((HTF.out.keptSet HRF.out (by decide) (by decide)).keptSet hR5 (by decide) (by decide)).mono (by omega)
       ·rw[HE.out]
        exact ((HBF.out.keptSet HRF.out (by decide) (by decide)).keptSet hR5 (by decide) (by decide)).mono (by omega)
       ·exact (HBX.out.setCell (p:=⟨w.heap.size+2,0,none⟩) (by show w.heap.size≤w.heap.size+2;omega) _).setCell (p:=⟨w.heap.size+2,1,none⟩) (by show w.heap.size≤w.heap.size+2;omega) _
end Go.Proofs.YtedahhjopmkbbaaGreat
