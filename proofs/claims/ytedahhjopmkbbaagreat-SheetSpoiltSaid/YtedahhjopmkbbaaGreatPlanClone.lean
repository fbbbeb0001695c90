/- Contract: plan.Plan.Clone. -/
import Derived.BigQuiet
import Derived.Deep.DeepCutAuto
import Derived.Test.YtedahhjopmkbbaaGreatP2
set_option linter.all false
set_option maxRecDepth 100000
set_option maxHeartbeats 6400000
namespace Go.Proofs.YtedahhjopmkbbaaGreat
open Go.RowKit
theorem xh7.pushU {TT TS:Nat}{w w':World}{B:Nat}{v v' u:Value}{out:List (List ba7)}{vs:List Value}{t:List ba7}(h:xh7 TT TS w B v out vs) (hne:TS≠TT) (hg:w.grownBy w' v.ownBlock)
  (ho:w'.ownsRow B TT 1 v' (out.length+1) (vs++[u])) (hu:w.ownsRow B TS 2 u t.length (t.flatMap stopV))
  (ha:∀i (hi:i<vs.length),(vs[i].ownBlock=none∨vs[i].ownBlock≠u.ownBlock)∧(u.ownBlock=none∨u.ownBlock≠vs[i].ownBlock)):xh7 TT TS w' B v' (out++[t]) (vs++[u]):=by
 refine⟨by rw[List.length_append];exact ho,by simp[h.len],fun i h1 h2=>?_,fun i j hi hj hij=>?_⟩
 ·by_cases hl:i<out.length
  ·have hl':i<vs.length:=by rw[h.len];exact hl
   rw[List.getElem_append_left hl',List.getElem_append_left hl]
   exact (h.rows i hl hl').kept hg (xa7 (h.rows i hl hl') h.own hne)
  ·have:i=out.length:=by simp at h1;omega
   subst this
   have e1:(vs++[u])[out.length]'h2=u:=by rw[List.getElem_append_right (by rw[h.len];exact Nat.le_refl _)];simp[h.len]
   have e2:(out++[t])[out.length]'h1=t:=by rw[List.getElem_append_right (Nat.le_refl _)];simp
   rw[e1,e2]
   exact hu.kept hg (xa7 hu h.own hne)
 ·simp only[List.length_append,List.length_cons,List.length_nil]at hi hj
  by_cases h1:i<vs.length
  ·by_cases h2:j<vs.length
   ·rw[List.getElem_append_left h1,List.getElem_append_left h2];exact h.apart i j h1 h2 hij
   ·have:j=vs.length:=by omega
    subst this
    rw[List.getElem_append_left h1,List.getElem_append_right (Nat.le_refl _)]
    simp only[Nat.sub_self,List.getElem_cons_zero]
    exact (ha i h1).1
  ·have:i=vs.length:=by omega
   subst this
   have h2:j<vs.length:=by omega
   rw[List.getElem_append_left h2,List.getElem_append_right (Nat.le_refl _)]
   simp only[Nat.sub_self,List.getElem_cons_zero]
   exact (ha j h2).2
theorem xh7.blockLt {TT TS:Nat}{w:World}{B:Nat}{v:Value}{out:List (List ba7)}{vs:List Value}(h:xh7 TT TS w B v out vs):∀i (hi:i<vs.length) b,vs[i].ownBlock=some b→b<w.heap.size:=fun i hi b hb =>
 ((h.rows i (by rw[← h.len];exact hi) hi).lt b hb).2
theorem dfb7 {w:World}{T n k:Nat}{u v:Value}{xs:List Value}{w0:World}(hv:∀b,v.ownBlock=some b→b<w0.heap.size) (hu:w.ownsRow w0.heap.size T k u n xs):(v.ownBlock=none∨v.ownBlock≠u.ownBlock)∧(u.ownBlock=none∨u.ownBlock≠v.ownBlock):=by
 constructor
 ·cases e:v.ownBlock with
  | none=>exact .inl rfl
  | some b=>exact .inr fun e'=>by have:=hv b e;have:=(hu.lt b e'.symm).1;omega
 ·cases e:u.ownBlock with
  | none=>exact .inl rfl
  | some b=>exact .inr fun e'=>by have:=hv b e'.symm;have:=(hu.lt b e).1;omega
theorem xh7.keptOwn {TT TS T k n:Nat}{w w':World}{B B':Nat}{v u:Value}{xs:List Value}{out:List (List ba7)}{vs:List Value}(h:xh7 TT TS w B v out vs) (ho:w.ownsRow B' T k u n xs) (hg:w.grownBy w' u.ownBlock) (h1:TT≠T) (h2:TS≠T):xh7 TT TS w' B v out vs :=
 ⟨h.own.kept hg (xa7 h.own ho h1),h.len,fun i k1 k2=>(h.rows i k1 k2).kept hg (xa7 (h.rows i k1 k2) ho h2),h.apart⟩
theorem mjb7 {w:World}{F:Nat→Prop}{p:ua7}{cs:List Value}(h:ecb7.rep w F p cs) (hn1:p.trucks.length≤1000000) (hn2:p.bikes.length≤1000000) (hs1:∀t∈p.trucks,t.length≤1000000) (hs2:∀b∈p.bikes,b.stops.length≤1000000) :
  Calls Tryz.prog 46 #[.agg cs.toArray] w fun e w'=>∃tv bv ts vs,e = .returned (.agg #[tv,bv])∧xh7 69 66 w' w.heap.size tv p.trucks ts∧zh7 75 3 w' w.heap.size bv p.bikes vs∧Below w.heap.size w w':=by
 obtain⟨tv,bv,rfl,h1,h2⟩:=h
 obtain⟨a1,b1,off1,c1,hs,hl1,hc1,ha1,-,hcell1⟩:=xi7 h1
 obtain⟨a2,b2,off2,c2,hs',hl2,hc2,ha2,-,hcell2⟩:=mk7 h2
 obtain rfl:=List.cons.inj hs |>.1
 obtain rfl:=List.cons.inj hs' |>.1
 clear hs hs' h1 h2
 have HS1:=hid hs1
 have HS2:=hid hs2
 have X0:=((Row.new (w:=w) (e:=41) (cs:=[.slice a1 p.trucks.length c1,.slice a2 p.bikes.length c2]) rfl).alloc (.cells #[.slice none 0 0,.slice none 0 0] 41)).alloc (.cells #[.slice none 0 0,.slice none 0 0] 41)
 have R0:=(Row.new (w:=w.alloc (.cells #[.slice a1 p.trucks.length c1,.slice a2 p.bikes.length c2] 41)) (g:=w.heap.size+1) (e:=41) (cs:=[.slice none 0 0,.slice none 0 0]) (by simp)).alloc (.cells #[.slice none 0 0,.slice none 0 0] 41)
 have P0:=Row.new (w:=(w.alloc (.cells #[.slice a1 p.trucks.length c1,.slice a2 p.bikes.length c2] 41)).alloc (.cells #[.slice none 0 0,.slice none 0 0] 41)) (g:=w.heap.size+2) (e:=41) (cs:=[.slice none 0 0,.slice none 0 0]) (by simp)
 have hb0:Below w.heap.size w (((w.alloc (.cells #[.slice a1 p.trucks.length c1,.slice a2 p.bikes.length c2] 41)).alloc (.cells #[.slice none 0 0,.slice none 0 0] 41)).alloc (.cells #[.slice none 0 0,.slice none 0 0] 41)):=(((Below.refl _ _).alloc (Nat.le_refl _) _).alloc (by simp) _).alloc (by simp;omega) _
 clear hs1 hs2
 go_enter Tryz.func46,Tryz.ntmps46
 go_wp2
 go_loopw [11] (fun i wr=>∃(k:Nat) (ta:Option Addr) (tc:Nat) (ts:List Value),k≤p.trucks.length∧i = .int .i64 k∧xh7 69 66 wr w.heap.size (.slice ta (p.trucks.take k).length tc) (p.trucks.take k) ts ∧
   Row wr (w.heap.size+2) 41 [.slice ta (p.trucks.take k).length tc,.slice none 0 0]∧Row wr w.heap.size 41 [.slice a1 p.trucks.length c1,.slice a2 p.bikes.length c2] ∧
   Row wr (w.heap.size+1) 41 [.slice none 0 0,.slice none 0 0]∧Below w.heap.size w wr) (fun i _=>p.trucks.length-(intOf i).toNat)
 case atStart=>exact⟨0,none,0,[],Nat.zero_le _,rfl,xh7.nil _ _ _ _,P0,X0,R0,hb0⟩
 case round =>
  clear X0 R0 P0 hb0
  obtain⟨k,ta,tc,ts,hk,rfl,hT,hP,hX,hR,hb⟩:=hrel
  obtain⟨wq,rfl⟩:∃wq:World,wq=wr:=⟨_,rfl⟩
  have hsz:=hb.size
  have hzp:=hP.lt
  have htk:(p.trucks.take k).length=k:=by rw[List.length_take];omega
  rw[htk]at hT hP
  obtain⟨pc0,pc1⟩:=ry7 hP
  obtain⟨xc0,xc1⟩:=ry7 hX
  by_cases hlt:k<p.trucks.length
  ·obtain⟨tv,g0,gr⟩:=hcell1 k hlt
   have hx:=nc7 (c:=c1) Tryz.underlying38 on7 (ha1 (by omega)) hlt
   obtain⟨a9,c9,hs9,-,-⟩:=cx7 gr
   subst hs9
   have hln:=HS1.out _ (List.getElem_mem hlt)
   obtain⟨tl,htl⟩:∃tl,tl=p.trucks[k]:=⟨_,rfl⟩
   rw[← htl]at g0 gr hln
   have q0:=ea7 hb g0
   have HGR:=hid gr
   have HTK:=hid (show p.trucks.take (k+1)=p.trucks.take k++[tl] from by rw[htl];exact List.take_succ_eq_append_getElem hlt)
   have HT:=hid hT
   have HP:=hid hP
   have HX:=hid hX
   have HR:=hid hR
   have o1:some (w.heap.size+2)≠(Value.slice ta k tc).ownBlock:=xc7 hT.own hP (by decide)
   have hrow:=hT.own
   rw[htk]at hrow
   clear htl gr g0 hT hP hX hR hcell1 hcell2 xc0 xc1
   generalize hro:(Value.slice ta k tc).ownBlock=row at *
   have HRO:=hid hro
   have HROWN:=hid hrow
   have HTKL:=hid htk
   clear hro hrow htk
   go_upto_region 5 with fail
   have hal0:Below wq.heap.size wq (wq.alloc (.cells #[.slice a9 tl.length c9] 69)):=(Below.refl _ _).alloc (Nat.le_refl _) _
   have tcell:(wq.alloc (.cells #[.slice a9 tl.length c9] 69)).cell? ⟨wq.heap.size,0,none⟩=some (.slice a9 tl.length c9):=cell_of (heap_alloc_new _ _)
   generalize hwa:wq.alloc (.cells #[.slice a9 tl.length c9] 69)=wa at *
   have hza:wa.heap.size=wq.heap.size+1:=by rw[← hwa];simp
   have pca:=ea7 hal0 pc0
   have o2:some wq.heap.size≠row:=fun e=>by have:=(HROWN.out.lt _ (by rw[HRO.out];exact e.symm)).2;omega
   have z1:∀e:At (sb7 row wa),_:=fun e=>e.ok.cell pca o1
   have z2:∀e:At (sb7 row wa),_:=fun e=>e.ok.cell tcell o2
   have HALL:=hid hal0
   have HZA:=hid hza
   clear hwa hal0 hza
   refine qg7 (sb7 row wa) [9] [([0,1,2,3],4,false),([5],6,false),([],7,false),([],8,false),([],9,true)] (by kernel_rfl) (by kernel_rfl) (fun _ _ d _ _ h=>by cases d <;> exact h) (sb7.refl _ _).drew ?_
   simp only[kj7,List.map_cons,List.map_nil,Array.getD_eq_getD_getElem?,List.getElem?_toArray,List.getElem?_cons_succ,List.getElem?_cons_zero,Option.getD_some,dw7]
   repeat (go_big_quiet_step (fail))
   refine wpQuiet_nil ?_
   go_wp2_with fail
   have hS0:sb7 row wa wa.drew:=(sb7.refl _ _).drew
   have hbA:=HALL.out
   refine (qgb7 ((ia7 ai7).below HGR.out (pa7 hb hbA).drew) hln).mono ?_
   rintro e w1 ⟨u,rfl,hu,hb1⟩
   obtain⟨au,cu,hul,-,-⟩:=eb7 hu
   subst hul
   have hS1:=hS0.below hb1
   have hb2:Below wq.heap.size wq w1:=pa7 hbA.drew hb1
   have hsz1:=hb2.size
   go_wp2_with fail
   refine⟨hS1, ?_⟩
   repeat (go_big_quiet_step (fail))
   refine wpQuiet_nil ?_
   go_wp2_with fail
   have hal2:Below w1.heap.size w1 (w1.alloc (.cells #[.slice au tl.length cu] 69)):=(Below.refl _ _).alloc (Nat.le_refl _) _
   have hb3:Below wq.heap.size wq (w1.alloc (.cells #[.slice au tl.length cu] 69)):=pa7 hb2 hal2
   refine⟨hS1.below hal2,wpQuiet_nil ?_⟩
   have hown1:=rb7 HROWN.out hb3
   obtain⟨i1,hi,hi0,hi1,hi2⟩:=info_parts iab7
   have hzz:=HZA.out
   have hsza:wa.heap.size≤w1.heap.size:=hb1.size
   go_wp2_with (at_builtin;refine wpList_append_own _ rfl _ _ 38 rfl w.heap.size 69 i1 (.agg #[.slice none 0 0]) 1 24 Tryz.underlying38 hi hi0 hi1 hi2 rfl (by decide) _ _ _ rfl hown1 ⟨w1.heap.size,0,none⟩ 1 1 [.slice au tl.length cu] rfl rfl ?c1 ?c2 ?c3 ?c4 ?c5 ?_)
   case c1=>exact cell_one_new _ _ _
   case c2=>intro u hu;simp at hu;subst hu;rfl
   case c3=>unfold maxLen;omega
   case c4=>omega
   case c5=>simp;omega
   intro v' w2 hown' hgrow _
   obtain⟨ao',cp',hv',-,-⟩:=eb7 hown'
   subst hv'
   have hS3:=(hS1.below hal2).grown (by rw[HRO.out]at hgrow;exact hgrow)
   have hTp:=(HT.out.below hb3).pushU (t:=tl) (u:=.slice au tl.length cu) (by decide) hgrow (by rw[HTKL.out];exact hown') (wf7 (hu.alloc _) (by show w.heap.size≤wa.heap.size;omega)) (fun i hi=>dfb7 (w0:=wa) (fun b hb=>by have:=HT.out.blockLt i hi b hb;omega) hu)
   have hPk:=(HP.out.below hb3).grown hown1 (by decide) hgrow
   have hXk:=(HX.out.below hb3).grown hown1 (by decide) hgrow
   have hRk:=(HR.out.below hb3).grown hown1 (by decide) hgrow
   have hBb:=td7 (hb.trans (hb3.mono hsz)) hown1 (by simp;omega) (Nat.le_refl _) hgrow
   have HL:=hid (show (p.trucks.take (k+1)).length=k+1 from by rw[HTK.out,List.length_append,HTKL.out];rfl)
   have HT5:=hid (show xh7 69 66 (w2.setCell ⟨w.heap.size+2,0,none⟩ (.slice ao' (k+1) cp')) w.heap.size (.slice ao' (p.trucks.take (k+1)).length cp') (p.trucks.take (k+1)) (ts++[.slice au tl.length cu]) from by
    rw[HL.out,HTK.out];exact hTp.keptSet hPk (by decide) (by decide))
   have HP5:=hid (show Row (w2.setCell ⟨w.heap.size+2,0,none⟩ (.slice ao' (k+1) cp')) (w.heap.size+2) 41 [.slice ao' (p.trucks.take (k+1)).length cp',.slice none 0 0] from by
    rw[HL.out];exact hPk.set (j:=0) (by simp) _)
   have HX5:=hid (hXk.setOther (a:=⟨w.heap.size+2,0,none⟩) (by show w.heap.size≠w.heap.size+2;omega) (.slice ao' (k+1) cp'))
   have HR5:=hid (hRk.setOther (a:=⟨w.heap.size+2,0,none⟩) (by show w.heap.size+1≠w.heap.size+2;omega) (.slice ao' (k+1) cp'))
   have HB5:=hid (hBb.setCell (p:=⟨w.heap.size+2,0,none⟩) (by show w.heap.size≤w.heap.size+2;omega) (.slice ao' (k+1) cp'))
   obtain⟨pd0,pd1⟩:=ry7 hPk
   have pf0:=hPk.frozen 0
   clear hown' hgrow hown1 hi hi0 hi1 hi2 hTp hPk hXk hRk hBb hu hS0 hbA hb1 hb2 hb3 hal2 hS1
   refine⟨hS3,wpQuiet_nil ?_⟩
   go_wp2_with fail
   refine⟨hS3,wpQuiet_nil ?_⟩
   go_wp2
   go_roundw
   case rel=>exact⟨k+1,ao',cp',ts++[.slice au tl.length cu],by omega,by go_num,HT5.out,HP5.out,HX5.out,HR5.out,HB5.out⟩
   case measure=>simp[intOf];omega
  ·have hke:k=p.trucks.length:=by omega
   subst hke
   rw[List.take_length]at hT
   have HT:=hid hT
   have HP:=hid hP
   have HX:=hid hX
   have HR:=hid hR
   have HB:=hid hb
   clear hT hP hX hR hb hcell1 htk
   go_wp2
   go_loopw [28] (fun i wr=>∃(k:Nat) (ba:Option Addr) (bc:Nat) (vs:List Value),k≤p.bikes.length∧i = .int .i64 k∧xh7 69 66 wr w.heap.size (.slice ta p.trucks.length tc) p.trucks ts ∧
     zh7 75 3 wr w.heap.size (.slice ba (p.bikes.take k).length bc) (p.bikes.take k) vs ∧
     Row wr (w.heap.size+2) 41 [.slice ta p.trucks.length tc,.slice ba (p.bikes.take k).length bc] ∧
     Row wr (w.heap.size+1) 41 [.slice none 0 0,.slice none 0 0]∧Below w.heap.size w wr) (fun i _=>p.bikes.length-(intOf i).toNat)
   case atStart=>exact⟨0,none,0,[],Nat.zero_le _,rfl,HT.out,zh7.nil _ _ _ _,HP.out,HR.out,HB.out⟩
   case round =>
    clear pc0 pc1 xc0 xc1 HT HP HX HR HB
    obtain⟨k,ba,bc,vs,hk,rfl,hT,hB,hP,hR,hb⟩:=hrel
    obtain⟨wq,rfl⟩:∃wq:World,wq=wr:=⟨_,rfl⟩
    have hsz:=hb.size
    have hzp:=hP.lt
    have htk:(p.bikes.take k).length=k:=by rw[List.length_take];omega
    rw[htk]at hB hP
    obtain⟨pc0,pc1⟩:=ry7 hP
    by_cases hlt:k<p.bikes.length
    ·obtain⟨tv,g0,g1,hwf,gr⟩:=hcell2 k hlt
     have hx:=lh7 (c:=c2) Tryz.underlying39 np7 (ha2 (by omega)) hlt
     obtain⟨a9,b9,off9,c9,hs9,-,-,-,-,-,-⟩:=rh7 gr
     obtain rfl:=List.cons.inj hs9 |>.1
     have hln:=HS2.out _ (List.getElem_mem hlt)
     obtain⟨sa,hsa⟩:∃sa,sa=(p.bikes[k]).sat:=⟨_,rfl⟩
     obtain⟨sp,hsp⟩:∃sp,sp=(p.bikes[k]).stops:=⟨_,rfl⟩
     have hbk:p.bikes[k]=⟨sa,sp⟩:=by rw[hsa,hsp]
     rw[← hsa]at g0
     rw[← hsp]at g1 gr hln
     have q0:=ea7 hb g0
     have q1:=ea7 hb g1
     have HGR:=hid gr
     have HTK:=hid (show p.bikes.take (k+1)=p.bikes.take k++[⟨sa,sp⟩] from by rw[← hbk];exact List.take_succ_eq_append_getElem hlt)
     have HT:=hid hT
     have HB:=hid hB
     have HP:=hid hP
     have HR:=hid hR
     have o1:some (w.heap.size+2)≠(Value.slice ba k bc).ownBlock:=xc7 hB.own hP (by decide)
     have hrow:=hB.own
     rw[htk]at hrow
     clear hsa hsp hbk gr g0 g1 hT hB hP hR hcell2 hs9
     generalize hro:(Value.slice ba k bc).ownBlock=row at *
     have HRO:=hid hro
     have HROWN:=hid hrow
     have HTKL:=hid htk
     clear hro hrow htk
     go_upto_region 10 with fail
     have hal0:Below wq.heap.size wq (wq.alloc (.cells #[.int .i64 sa,.slice a9 sp.length c9] 75)):=(Below.refl _ _).alloc (Nat.le_refl _) _
     have tcell:(wq.alloc (.cells #[.int .i64 sa,.slice a9 sp.length c9] 75)).cell? ⟨wq.heap.size,0,none⟩=some (.int .i64 sa):=cell_of (heap_alloc_new _ _)
     have tcell1:(wq.alloc (.cells #[.int .i64 sa,.slice a9 sp.length c9] 75)).cell? ⟨wq.heap.size,1,none⟩=some (.slice a9 sp.length c9):=cell_of (heap_alloc_new _ _)
     generalize hwa:wq.alloc (.cells #[.int .i64 sa,.slice a9 sp.length c9] 75)=wa at *
     have hza:wa.heap.size=wq.heap.size+1:=by rw[← hwa];simp
     have pca:=ea7 hal0 pc1
     have o2:some wq.heap.size≠row:=fun e=>by have:=(HROWN.out.lt _ (by rw[HRO.out];exact e.symm)).2;omega
     have z1:∀e:At (sb7 row wa),_:=fun e=>e.ok.cell pca o1
     have z2:∀e:At (sb7 row wa),_:=fun e=>e.ok.cell tcell o2
     have z3:∀e:At (sb7 row wa),_:=fun e=>e.ok.cell tcell1 o2
     have HALL:=hid hal0
     have HZA:=hid hza
     clear hwa hal0 hza
     refine qg7 (sb7 row wa) [11] [([0,1,2,3,4,5],6,false),([7],8,false),([],9,false),([],10,false),([],11,true)] (by kernel_rfl) (by kernel_rfl) (fun _ _ d _ _ h=>by cases d <;> exact h) (sb7.refl _ _).drew ?_
     simp only[kj7,List.map_cons,List.map_nil,Array.getD_eq_getD_getElem?,List.getElem?_toArray,List.getElem?_cons_succ,List.getElem?_cons_zero,Option.getD_some,dw7]
     repeat (go_big_quiet_step (fail))
     refine wpQuiet_nil ?_
     go_wp2_with fail
     have hS0:sb7 row wa wa.drew:=(sb7.refl _ _).drew
     have hbA:=HALL.out
     refine (rkb7 ((ia7 om7).below HGR.out (pa7 hb hbA).drew) hln).mono ?_
     rintro e w1 ⟨u,rfl,hu,hb1⟩
     obtain⟨au,cu,hul,-,-⟩:=eb7 hu
     subst hul
     have hS1:=hS0.below hb1
     have hb2:Below wq.heap.size wq w1:=pa7 hbA.drew hb1
     have hsz1:=hb2.size
     go_wp2_with fail
     refine⟨hS1, ?_⟩
     repeat (go_big_quiet_step (fail))
     refine wpQuiet_nil ?_
     go_wp2_with fail
     have hal2:Below w1.heap.size w1 (w1.alloc (.cells #[.int .i64 sa,.slice au sp.length cu] 75)):=(Below.refl _ _).alloc (Nat.le_refl _) _
     have hb3:Below wq.heap.size wq (w1.alloc (.cells #[.int .i64 sa,.slice au sp.length cu] 75)):=pa7 hb2 hal2
     refine⟨hS1.below hal2,wpQuiet_nil ?_⟩
     have hown1:=rb7 HROWN.out hb3
     obtain⟨i1,hi,hi0,hi1,hi2⟩:=info_parts qhb7
     have hzz:=HZA.out
     have hsza:wa.heap.size≤w1.heap.size:=hb1.size
     go_wp2_with (at_builtin;refine wpList_append_own _ rfl _ _ 39 rfl w.heap.size 75 i1 (.agg #[.int .i64 0,.slice none 0 0]) 2 32 Tryz.underlying39 hi hi0 hi1 hi2 rfl (by decide) _ _ _ rfl hown1 ⟨w1.heap.size,0,none⟩ 1 1 [.int .i64 sa,.slice au sp.length cu] rfl rfl ?c1 ?c2 ?c3 ?c4 ?c5 ?_)
     case c1=>exact dn7 (cs:=[.int .i64 sa,.slice au sp.length cu]) rfl _
     case c2=>intro u hu;simp at hu;rcases hu with rfl | rfl <;> rfl
     case c3=>unfold maxLen;omega
     case c4=>omega
     case c5=>simp;omega
     intro v' w2 hown' hgrow _
     obtain⟨ao',cp',hv',-,-⟩:=eb7 hown'
     subst hv'
     have hS3:=(hS1.below hal2).grown (by rw[HRO.out]at hgrow;exact hgrow)
     have hBp:=(HB.out.below hb3).push (b:=⟨sa,sp⟩) (u:=.slice au sp.length cu) (by decide) hgrow (by rw[HTKL.out];exact hown') (wf7 (hu.alloc _) (by show w.heap.size≤wa.heap.size;omega)) (fun i hi=>dfb7 (w0:=wa) (fun b hb=>by have:=HB.out.blockLt i hi b hb;omega) hu)
     have hTk:=(HT.out.below hb3).keptOwn hown1 hgrow (by decide) (by decide)
     have hPk:=(HP.out.below hb3).grown hown1 (by decide) hgrow
     have hRk:=(HR.out.below hb3).grown hown1 (by decide) hgrow
     have hBb:=td7 (hb.trans (hb3.mono hsz)) hown1 (by simp;omega) (Nat.le_refl _) hgrow
     have HL:=hid (show (p.bikes.take (k+1)).length=k+1 from by rw[HTK.out,List.length_append,HTKL.out];rfl)
     have HT5:=hid (hTk.keptSet (j:=1) (u:=.slice ao' (k+1) cp') hPk (by decide) (by decide))
     have HB5:=hid (show zh7 75 3 (w2.setCell ⟨w.heap.size+2,1,none⟩ (.slice ao' (k+1) cp')) w.heap.size (.slice ao' (p.bikes.take (k+1)).length cp') (p.bikes.take (k+1)) (vs++[.slice au sp.length cu]) from by
      rw[HL.out,HTK.out];exact hBp.keptSet hPk (by decide) (by decide))
     have HP5:=hid (show Row (w2.setCell ⟨w.heap.size+2,1,none⟩ (.slice ao' (k+1) cp')) (w.heap.size+2) 41 [.slice ta p.trucks.length tc,.slice ao' (p.bikes.take (k+1)).length cp'] from by
      rw[HL.out];exact hPk.set (j:=1) (by simp) _)
     have HR5:=hid (hRk.setOther (a:=⟨w.heap.size+2,1,none⟩) (by show w.heap.size+1≠w.heap.size+2;omega) (.slice ao' (k+1) cp'))
     have HX5:=hid (hBb.setCell (p:=⟨w.heap.size+2,1,none⟩) (by show w.heap.size≤w.heap.size+2;omega) (.slice ao' (k+1) cp'))
     obtain⟨pd0,pd1⟩:=ry7 hPk
     have pf1:=hPk.frozen 1
     clear hown' hgrow hown1 hi hi0 hi1 hi2 hBp hTk hPk hRk hBb hu hS0 hbA hb1 hb2 hb3 hal2 hS1
     refine⟨hS3,wpQuiet_nil ?_⟩
     go_wp2_with fail
     refine⟨hS3,wpQuiet_nil ?_⟩
     go_wp2
     go_roundw
     case rel=>exact⟨k+1,ao',cp',vs++[.slice au sp.length cu],by omega,by go_num,HT5.out,HB5.out,HP5.out,HR5.out,HX5.out⟩
     case measure=>simp[intOf];omega
    ·have hke:k=p.bikes.length:=by omega
     subst hke
     rw[List.take_length]at hB
     obtain⟨rc0,rc1⟩:=ry7 hR
     have rf0:=hR.frozen 0
     have rf1:=hR.frozen 1
     have HT:=hid hT
     have HB:=hid hB
     have HR:=hid hR
     have HBX:=hid hb
     clear hT hB hP hR hb htk hcell2
     go_wp2
     have hR5:=HR.out.set (j:=0) (by simp) (.slice ta p.trucks.length tc)
     refine bodyPost_ret (v:=.agg #[.slice ta p.trucks.length tc,.slice ba p.bikes.length bc]) (by simp[results,Tryz.results46,go_sem,rc0,rc1]) rfl ⟨_,_,ts,vs,rfl, ?_, ?_, ?_⟩
     ·exact (HT.out.keptSet HR.out (by decide) (by decide)).keptSet hR5 (by decide) (by decide)
     ·exact (HB.out.keptSet HR.out (by decide) (by decide)).keptSet hR5 (by decide) (by decide)
     ·exact (HBX.out.setCell (p:=⟨w.heap.size+1,0,none⟩) (by show w.heap.size≤w.heap.size+1;omega) _).setCell (p:=⟨w.heap.size+1,1,none⟩) (by show w.heap.size≤w.heap.size+1;omega) _
end Go.Proofs.YtedahhjopmkbbaaGreat
