/- Texts of the proof, joined: SoonM, Pc2, Up, SameT, Same18, Run, GlC, LawO, LawK, MoreK, MovedF, Moved, MvLaw, Any0, Dec, EffB, RunB. -/
import Derived.Laws.IdiomCopy
import Derived.Test.YtedahhjopmkbbaaGreatCan
set_option linter.all false
set_option maxRecDepth 100000
set_option maxHeartbeats 6400000
namespace Go.Proofs.YtedahhjopmkbbaaGreat.Ab
open Go.RowKit
def tsH (id:Nat):List (List Int)→AV
 | []=>.nils
 | l=>.h id 0 l.length
theorem sk7 {n:Nat}{ids:List Nat}(h:5<n) (l:List (List Int)):fu7 n ids (tsH 5 l)=tsH 5 l:=by
 cases l with
 | nil=>rfl
 | cons a l=>simp[tsH,fu7,cob7,h,mkH]
def tsR:List (List Int)→Root
 | []=>.dead
 | l=>.live false 60 1 (.gen (l.map fun r=>[ay7 r]))
def mqc7 (x:ca7) (p:ua7) (ts:List (List Int)) (ready:List Int):List Root :=
 [.live false 81 9 (.box (yh7 x)),.live false 41 2 (.box (pd7 p)),.live false 45 2 (.box [.nils,.nils]),.live false 45 2 (.box [tsH 5 ts,.nils]),.live false 2 1 (.ints .i64 ready),tsR ts]
theorem ml7 {n:Nat}{ids:List Nat}(l:List (List Int)):ne7 n ids (tsR l)=tsR l:=by
 cases l <;> rfl
def headL (x:ca7) (p:ua7) (ts:List (List Int)) (t:List ba7) (ready l:List Int):List Root :=
 [.live false 81 9 (.box (yh7 x)),.live false 41 2 (.box (pd7 p)),.live false 45 2 (.box [.nils,.nils]),.live false 45 2 (.box [tsH 5 ts,.nils]),.live false 2 1 (.ints .i64 ready),tsR ts,.live false 69 1 (.box [yl7 t]),lR l]
def bsH (id:Nat):List ka7→AV
 | []=>.nils
 | l=>.h id 0 l.length
def bsR:List ka7→Root
 | []=>.dead
 | l=>.live false 63 3 (.gen (l.map fun r=>[I6 r.out,ay7 r.starts,I6 r.back]))
def zl7 (x:ca7) (p:ua7) (ts:List (List Int)) (ready:List Int) (rs:List ka7):List Root :=
 [.live false 81 9 (.box (yh7 x)),.live false 41 2 (.box (pd7 p)),.live false 45 2 (.box [.nils,.nils]),.live false 45 2 (.box [tsH 5 ts,bsH 6 rs]),.live false 2 1 (.ints .i64 ready),tsR ts,bsR rs]
def xqb7 (x:ca7) (p:ua7) (ts:List (List Int)) (ready:List Int) (rs:List ka7) (b:ga7) (out:Int) (l:List Int):List Root :=
 zl7 x p ts ready rs++[.live false 75 2 (.box [I6 b.sat,ld7 b.stops]),.live false 63 3 (.box [I6 out,lH 9 l,I6 0]),lR l]
def upN (x:ca7) (A:SnA) (t:List ba7) (j:Nat):SnT:=(t.take j).foldl (xb7 x) ⟨0,0,A.ready,[]⟩
theorem efc7 (l:List (List Int)):Eqv (.sl l.length 1 fun i j=>nth ((l.map fun r=>[ay7 r]).getD i []) j) (.sl l.length 1 fun i _=>ld7 (l.getD i [])) :=
 ⟨_,rfl,fun i hi j hj=>by
  obtain rfl:j=0:=by omega
  dsimp only
  rw[wh7 (by simpa using hi),wh7 hi,List.getElem_map]
  exact kx7 _⟩
theorem afc7 (l:List ka7):Eqv (.sl l.length 3 fun i j=>nth ((l.map fun r=>[I6 r.out,ay7 r.starts,I6 r.back]).getD i []) j) (.sl l.length 3 fun i=>ix3 (I6 (l.getD i ⟨0,[],0⟩).out) (ld7 (l.getD i ⟨0,[],0⟩).starts) (I6 (l.getD i ⟨0,[],0⟩).back)) :=
 ⟨_,rfl,fun i hi j hj=>by
  dsimp only
  rw[wh7 (by simpa using hi),wh7 hi,List.getElem_map]
  match j,hj with
  | 0,_=>exact rfl
  | 1,_=>exact kx7 _
  | 2,_=>exact rfl⟩
def bkN (x:ca7) (ready:List Int) (b:ga7) (j:Nat):SnB:=(b.stops.take j).foldl (yb7 x) ⟨ready.getD b.sat.toNat 0,1+b.sat,[]⟩
theorem uoc7 {x:ca7}{p:ua7}(ok:mab7 x p):be7 Tryz.prog 23 [.agg (yh7 x),.agg (pd7 p)] (fun r=>r = .agg (mb7 (fm7 x p))):=by
 have gd:=ok.good
 have hs1:=gd.sats;have hc1:=gd.custs;have hf1:=gd.fin;have htl:=ok.tl;have hbl:=ok.bl
 have hndx:nodes x=1+x.sats.length+x.custs.length:=rfl
 refine vc7 zb7 (by kernel_rfl) (fun n=>match n with | 13=>([],1,none) | 25=>([0,1,2,3,4,5,6,7,12,13,14,15,16,17,8,9,10,11,18,19],0,none) | 29=>([],1,none) | _=>([],0,none)) Tryz.func23 rfl (by kernel_rfl) Tryz.ntmps23 (congrArg Array.toList Tryz.results23) (by kernel_rfl) (by simp) ?_
 simp -implicitDefEqProofs only [go_sem,yh7,pd7]
 refine⟨by omega, ?_⟩
 refine qc7 (ι:=Nat) 1 [2,3,4,5,6,26,27] [28] (fun k=>k≤p.trucks.length) (fun k=>[.c (I6 k)]) (fun k=>mqc7 x p (sa7 x (p.trucks.take k)).ts (sa7 x (p.trucks.take k)).ready) (fun k=>p.trucks.length-k) (by kernel_rfl) ⟨0,Nat.zero_le _,rfl,rfl⟩ (fun k _=>rfl) ?_
 intro k hk
 simp -implicitDefEqProofs only [go_sem,mqc7,yh7,pd7]
 refine⟨fun h=>?_,fun h=>?_⟩
 ·have hlt:k<p.trucks.length:=by omega
  have hst:=ok.t1 _ (mg7 hlt [])
  obtain⟨hab,hts⟩:=lj7 ok k hk
  have hst1:(cf7 p k).length≤100000:=hst.1
  have hst2:∀j,j<(cf7 p k).length→0≤(stN (cf7 p k) j).sat∧(stN (cf7 p k) j).sat<x.sats.length:=fun j hj=>hst.2 _ (mg7 hj _)
  generalize hA:sa7 x (p.trucks.take k)=A at hab hts
  obtain⟨rdy0,ts⟩:=A
  simp only[]at hts
  refine⟨by omega, ?_⟩
  refine qc7 (ι:=Nat) 1 [2,3,4,5,6,26,27,28,33,34] [9,10,11,35] (fun j=>j≤(cf7 p k).length) (fun j=>[.c (I6 (upN x ⟨rdy0,ts⟩ (cf7 p k) j).now),.c (I6 (upN x ⟨rdy0,ts⟩ (cf7 p k) j).node),.c (lH 7 (upN x ⟨rdy0,ts⟩ (cf7 p k) j).l),.c (I6 j)]) (fun j=>headL x p ts (cf7 p k) (upN x ⟨rdy0,ts⟩ (cf7 p k) j).ready (upN x ⟨rdy0,ts⟩ (cf7 p k) j).l) (fun j=>(cf7 p k).length-j) (by kernel_rfl) ⟨0,Nat.zero_le _,rfl,rfl⟩ (fun k _=>rfl) ?_
  intro j hj
  have hup:upN x ⟨rdy0,ts⟩ (cf7 p k) (j+1)=if h:j<(cf7 p k).length then xb7 x (upN x ⟨rdy0,ts⟩ (cf7 p k) j) (stN (cf7 p k) j) else upN x ⟨rdy0,ts⟩ (cf7 p k) j:=by
   unfold upN
   split
   ·rename_i h
    rw[List.take_succ_eq_append_getElem h,List.foldl_append]
    show xb7 x _ _=xb7 x _ _
    unfold stN
    rw[wh7 h]
   ·rename_i h
    rw[List.take_of_length_le (by omega),List.take_of_length_le (by omega)]
  obtain⟨hbd,hln⟩:=xo7 gd (t:=cf7 p k) (fsc7.start x ⟨rdy0,ts⟩ hab) rfl ⟨hst.1,hst.2⟩ j hj
  have hbd:fdc7 x (upN x ⟨rdy0,ts⟩ (cf7 p k) j):=hbd
  have hln:(upN x ⟨rdy0,ts⟩ (cf7 p k) j).l.length=j:=hln
  generalize hsu:upN x ⟨rdy0,ts⟩ (cf7 p k) j=st at hup hbd hln
  obtain⟨now,node,ready,l⟩:=st
  have hrl:ready.length=x.sats.length:=hbd.len
  have hln:l.length=j:=hln
  have hend:j=(cf7 p k).length→sa7 x (p.trucks.take (k+1))=⟨ready,ts++[l]⟩:=fun e=>by
   subst e
   have h1:mi7 x ⟨rdy0,ts⟩ (cf7 p k)=⟨now,node,ready,l⟩:=by rw[← hsu];unfold upN mi7;rw[List.take_length]
   have h2:sa7 x (p.trucks.take (k+1))=ee7 x (sa7 x (p.trucks.take k)) (cf7 p k):=by
    unfold sa7 cf7
    rw[List.take_succ_eq_append_getElem hlt,List.foldl_append,wh7 hlt];rfl
   rw[h2,hA];unfold ee7;rw[h1]
  have hs:=fun h=>hst2 j h
  have hn:=hbd.now;have hnd:=hbd.node;have tb:=pe7 gd node (1+(stN (cf7 p k) j).sat);have hb:=ax7 gd (stN (cf7 p k) j).sat;have tb0:=pe7 gd node 0
  have hjl1:l.length≤100000:=by omega
  clear hsu
  rcases l with _ | ⟨v,l⟩ <;> rcases ts with _ | ⟨a,ts⟩
  all_goals
   simp -implicitDefEqProofs only [go_sem,headL,yh7,pd7,lH,lR,tsH,tsR]
   refine⟨fun h2=>?_,fun h2=>?_⟩
  ·have hjl:j<(cf7 p k).length:=by omega
   rw[dif_pos hjl]at hup
   have hs:=hs hjl
   simp only[List.length_nil]at hn hnd
   refine⟨by omega,hnd,by omega,by omega,by omega,by omega,⟨by omega,by omega⟩,by omega,by omega,by omega,⟨by omega,by omega⟩,by omega,by omega,j+1,[10],by omega,⟨rfl,rfl⟩, ?_, ?_,by omega⟩
   ·rw[hup];rfl
   ·rw[hup];rfl
  ·have hend:=hend (by omega)
   refine⟨by omega,k+1,[9],by omega,⟨rfl,rfl⟩,rfl, ?_,by omega⟩
   rw[hend];rfl
  ·have hjl:j<(cf7 p k).length:=by omega
   rw[dif_pos hjl]at hup
   have hs:=hs hjl
   simp only[List.length_nil]at hn hnd
   refine⟨by omega,hnd,by omega,by omega,by omega,by omega,⟨by omega,by omega⟩,by omega,by omega,by omega,⟨by omega,by omega⟩,by omega,by omega,j+1,[10],by omega,⟨rfl,rfl⟩, ?_, ?_,by omega⟩
   ·rw[hup];rfl
   ·rw[hup];rfl
  ·have hend:=hend (by omega)
   simp only[List.length_cons]at hts
   refine⟨⟨by simp,by omega⟩,by omega,k+1,[5],by omega,⟨rfl,rfl⟩,rfl, ?_,by omega⟩
   rw[hend];simp[fo7,aa7,ne7,km7,pos,mkH,ay7]
  ·have hjl:j<(cf7 p k).length:=by omega
   rw[dif_pos hjl]at hup
   have hs:=hs hjl
   simp only[List.length_cons]at hn hnd hln hjl1
   refine⟨by omega,hnd,by omega,by omega,by omega,by omega,by omega,⟨by omega,by omega⟩,by omega,by omega,by omega,⟨by omega,by omega⟩,by omega,by omega,j+1,[7],by omega,⟨rfl,rfl⟩, ?_, ?_,by omega⟩
   ·rw[hup];simp[xb7,pos,mkH]
   ·rw[hup];simp[xb7,fo7,aa7,ne7,km7]
  ·have hend:=hend (by omega)
   refine⟨by omega,k+1,[9],by omega,⟨rfl,rfl⟩,rfl, ?_,by omega⟩
   rw[hend];rfl
  ·have hjl:j<(cf7 p k).length:=by omega
   rw[dif_pos hjl]at hup
   have hs:=hs hjl
   simp only[List.length_cons]at hn hnd hln hjl1
   refine⟨by omega,hnd,by omega,by omega,by omega,by omega,by omega,⟨by omega,by omega⟩,by omega,by omega,by omega,⟨by omega,by omega⟩,by omega,by omega,j+1,[7],by omega,⟨rfl,rfl⟩, ?_, ?_,by omega⟩
   ·rw[hup];simp[xb7,pos,mkH]
   ·rw[hup];simp[xb7,fo7,aa7,ne7,km7]
  ·have hend:=hend (by omega)
   simp only[List.length_cons]at hts
   refine⟨⟨by simp,by omega⟩,by omega,k+1,[5],by omega,⟨rfl,rfl⟩,rfl, ?_,by omega⟩
   rw[hend];simp[fo7,aa7,ne7,km7,pos,mkH,ay7]
 ·obtain rfl:k=p.trucks.length:=by omega
  obtain⟨hab,hts⟩:=lj7 ok _ (Nat.le_refl _)
  have hsd:fm7 x p=⟨(sa7 x p.trucks).ts,p.bikes.map (tg7 x (sa7 x p.trucks).ready)⟩:=rfl
  rw[List.take_length]at hab hts ⊢
  generalize sa7 x p.trucks=A at hab hts hsd
  obtain⟨ready,ts⟩:=A
  simp only[]at hts hsd
  have hrl:ready.length=x.sats.length:=hab.len
  rw[hsd]
  clear hsd
  refine qc7 (ι:=Nat) 1 [2,4,5,6,86,87] [88] (fun k=>k≤p.bikes.length) (fun k=>[.c (I6 k)]) (fun k=>zl7 x p ts ready ((p.bikes.take k).map (tg7 x ready))) (fun k=>p.bikes.length-k) (by kernel_rfl) ⟨0,Nat.zero_le _,rfl,rfl⟩ (fun k _=>rfl) ?_
  intro k hk
  generalize hrs:(p.bikes.take k).map (tg7 x ready)=rs
  simp -implicitDefEqProofs only [go_sem,zl7,yh7,pd7]
  refine⟨fun h=>?_,fun h=>?_⟩
  ·have hlt:k<p.bikes.length:=by omega
   have hb1:=ok.b1 _ (mg7 hlt ⟨0,[]⟩)
   have hsat:0≤(le7 p k).sat∧(le7 p k).sat<x.sats.length:=hb1.2.1
   have hsl:(le7 p k).stops.length≤100000:=hb1.1
   have hco:∀j,j<(le7 p k).stops.length→je7 x ((le7 p k).stops.getD j 0):=fun j hj=>hb1.2.2 _ (mg7 hj _)
   refine⟨by omega,⟨⟨by omega,by omega⟩,by omega⟩,by omega,by omega, ?_⟩
   refine qc7 (ι:=Nat) 1 [2,4,5,6,15,16,86,87,88,104,105] [17,18,106] (fun j=>j≤(le7 p k).stops.length) (fun j=>[.c (I6 (bkN x ready (le7 p k) j).now),.c (I6 (bkN x ready (le7 p k) j).node),.c (I6 j)]) (fun j=>xqb7 x p ts ready rs (le7 p k) (ready.getD (le7 p k).sat.toNat 0) (bkN x ready (le7 p k) j).starts) (fun j=>(le7 p k).stops.length-j) (by kernel_rfl) ⟨0,Nat.zero_le _,rfl,rfl⟩ (fun k _=>rfl) ?_
   intro j hj
   have hup:j<(le7 p k).stops.length→bkN x ready (le7 p k) (j+1)=yb7 x (bkN x ready (le7 p k) j) ((le7 p k).stops.getD j 0):=fun h=>by
    unfold bkN
    rw[List.take_succ_eq_append_getElem h,List.foldl_append,wh7 h];rfl
   have hend:j=(le7 p k).stops.length→(p.bikes.take (k+1)).map (tg7 x ready)=rs++[⟨ready.getD (le7 p k).sat.toNat 0,(bkN x ready (le7 p k) j).starts,(bkN x ready (le7 p k) j).now+gb7 x (bkN x ready (le7 p k) j).node (1+(le7 p k).sat)⟩]:=fun e=>by
    subst e
    rw[List.take_succ_eq_append_getElem hlt,List.map_append,hrs]
    unfold bkN
    rw[List.take_length]
    have:le7 p k=p.bikes[k]:=wh7 hlt _
    rw[this];rfl
   obtain⟨hbd,hln⟩:=uo7 gd (t:=(le7 p k).stops) (mv7 hrl hab.rdy hsat) rfl ⟨hb1.1,hb1.2.2⟩ j hj
   have hbd:jic7 x (bkN x ready (le7 p k) j):=hbd
   have hln:(bkN x ready (le7 p k) j).starts.length=j:=hln
   generalize bkN x ready (le7 p k) j=st at hup hend hbd hln
   obtain⟨now,node,l⟩:=st
   have hln:l.length=j:=hln
   have hn:=hbd.now;have hnd:=hbd.node
   have tb:=pe7 gd node (1+x.sats.length+(le7 p k).stops.getD j 0);have tb0:=pe7 gd node (1+(le7 p k).sat)
   rcases l with _ | ⟨v,l⟩ <;> rcases rs with _ | ⟨a,rs⟩
   all_goals
    simp -implicitDefEqProofs only [go_sem,xqb7,zl7,yh7,pd7,lH,lR,ml7,bsH,bsR,sk7 (show 5<9 by decide)]
    refine⟨fun h2=>?_,fun h2=>?_⟩
   ·have hjl:j<(le7 p k).stops.length:=by omega
    have hup:=hup hjl
    have hcj:=hco j hjl
    have cb:=odb7 gd hcj
    simp only[List.length_nil]at hn hnd
    refine⟨by omega,hnd,hcj, ?_⟩
    refine pb7 (yec7 x hcj gd) ⟨trivial,trivial,trivial⟩ rfl (fun r h=>by subst h;rfl) ?_
    rintro r rfl
    simp -implicitDefEqProofs only [go_sem]
    unfold je7 at hcj
    refine⟨by omega,by omega,by omega,by omega, ?_⟩
    refine pb7 (yec7 x hcj gd) ⟨trivial,trivial,trivial⟩ rfl (fun r h=>by subst h;rfl) ?_
    rintro r rfl
    refine⟨by omega,j+1,[11],by omega,⟨rfl,rfl⟩, ?_, ?_,by omega⟩
    ·rw[hup];rfl
    ·rw[hup];simp -implicitDefEqProofs only [go_sem,yb7,xqb7,zl7,bsH,bsR,lH,lR,ml7,sk7 (show 5<9 by decide),yh7,pd7,List.nil_append,List.cons_append,List.length_append]
   ·have hend:=hend (by omega)
    simp only[List.length_nil]at hn hnd
    refine⟨hnd,by omega,by omega,by omega,by omega,k+1,[11],by omega,⟨rfl,rfl⟩,rfl, ?_,by omega⟩
    rw[hend];simp -implicitDefEqProofs only [go_sem,zl7,bsH,bsR,ay7,ml7,sk7 (show 5<6 by decide),yh7,pd7,List.nil_append,List.cons_append,List.length_append,List.map_append]
   ·have hjl:j<(le7 p k).stops.length:=by omega
    have hup:=hup hjl
    have hcj:=hco j hjl
    have cb:=odb7 gd hcj
    simp only[List.length_nil]at hn hnd
    refine⟨by omega,hnd,hcj, ?_⟩
    refine pb7 (yec7 x hcj gd) ⟨trivial,trivial,trivial⟩ rfl (fun r h=>by subst h;rfl) ?_
    rintro r rfl
    simp -implicitDefEqProofs only [go_sem]
    unfold je7 at hcj
    refine⟨by omega,by omega,by omega,by omega, ?_⟩
    refine pb7 (yec7 x hcj gd) ⟨trivial,trivial,trivial⟩ rfl (fun r h=>by subst h;rfl) ?_
    rintro r rfl
    refine⟨by omega,j+1,[11],by omega,⟨rfl,rfl⟩, ?_, ?_,by omega⟩
    ·rw[hup];rfl
    ·rw[hup];simp -implicitDefEqProofs only [go_sem,yb7,xqb7,zl7,bsH,bsR,lH,lR,ml7,sk7 (show 5<9 by decide),yh7,pd7,List.nil_append,List.cons_append,List.length_append]
   ·have hend:=hend (by omega)
    simp only[List.length_nil]at hn hnd
    have hlr:rs.length+1=k:=by have:=congrArg List.length hrs;simp at this;omega
    refine⟨hnd,by omega,by omega,by omega,⟨by simp,by omega⟩,by omega,k+1,[6],by omega,⟨rfl,rfl⟩,rfl, ?_,by omega⟩
    rw[hend];simp -implicitDefEqProofs only [go_sem,zl7,bsH,bsR,ay7,ml7,sk7 (show 5<6 by decide),yh7,pd7,List.nil_append,List.cons_append,List.length_append,List.map_append]
   ·have hjl:j<(le7 p k).stops.length:=by omega
    have hup:=hup hjl
    have hcj:=hco j hjl
    have cb:=odb7 gd hcj
    simp only[List.length_cons]at hn hnd hln
    refine⟨by omega,hnd,hcj, ?_⟩
    refine pb7 (yec7 x hcj gd) ⟨trivial,trivial,trivial⟩ rfl (fun r h=>by subst h;rfl) ?_
    rintro r rfl
    simp -implicitDefEqProofs only [go_sem]
    unfold je7 at hcj
    refine⟨by omega,by omega,by omega,by omega,by omega, ?_⟩
    refine pb7 (yec7 x hcj gd) ⟨trivial,trivial,trivial⟩ rfl (fun r h=>by subst h;rfl) ?_
    rintro r rfl
    refine⟨by omega,j+1,[9],by omega,⟨rfl,rfl⟩, ?_, ?_,by omega⟩
    ·rw[hup];rfl
    ·rw[hup];simp -implicitDefEqProofs only [go_sem,yb7,xqb7,zl7,bsH,bsR,lH,lR,ml7,sk7 (show 5<9 by decide),yh7,pd7,List.nil_append,List.cons_append,List.length_append]
   ·have hend:=hend (by omega)
    simp only[List.length_cons]at hn hnd hln
    refine⟨hnd,by omega,by omega,by omega,by omega,k+1,[11],by omega,⟨rfl,rfl⟩,rfl, ?_,by omega⟩
    rw[hend];simp -implicitDefEqProofs only [go_sem,zl7,bsH,bsR,ay7,ml7,sk7 (show 5<6 by decide),yh7,pd7,List.nil_append,List.cons_append,List.length_append,List.map_append];rfl
   ·have hjl:j<(le7 p k).stops.length:=by omega
    have hup:=hup hjl
    have hcj:=hco j hjl
    have cb:=odb7 gd hcj
    simp only[List.length_cons]at hn hnd hln
    refine⟨by omega,hnd,hcj, ?_⟩
    refine pb7 (yec7 x hcj gd) ⟨trivial,trivial,trivial⟩ rfl (fun r h=>by subst h;rfl) ?_
    rintro r rfl
    simp -implicitDefEqProofs only [go_sem]
    unfold je7 at hcj
    refine⟨by omega,by omega,by omega,by omega,by omega, ?_⟩
    refine pb7 (yec7 x hcj gd) ⟨trivial,trivial,trivial⟩ rfl (fun r h=>by subst h;rfl) ?_
    rintro r rfl
    refine⟨by omega,j+1,[9],by omega,⟨rfl,rfl⟩, ?_, ?_,by omega⟩
    ·rw[hup];rfl
    ·rw[hup];simp -implicitDefEqProofs only [go_sem,yb7,xqb7,zl7,bsH,bsR,lH,lR,ml7,sk7 (show 5<9 by decide),yh7,pd7,List.nil_append,List.cons_append,List.length_append]
   ·have hend:=hend (by omega)
    simp only[List.length_cons]at hn hnd hln
    have hlr:rs.length+1=k:=by have:=congrArg List.length hrs;simp at this;omega
    refine⟨hnd,by omega,by omega,by omega,⟨by simp,by omega⟩,by omega,k+1,[6],by omega,⟨rfl,rfl⟩,rfl, ?_,by omega⟩
    rw[hend];simp -implicitDefEqProofs only [go_sem,zl7,bsH,bsR,ay7,ml7,sk7 (show 5<6 by decide),yh7,pd7,List.nil_append,List.cons_append,List.length_append,List.map_append];rfl
  ·obtain rfl:k=p.bikes.length:=by omega
   rw[List.take_length]at hrs
   rw[hrs]
   rcases ts with _ | ⟨a,ts⟩ <;> rcases rs with _ | ⟨b,rs⟩
   all_goals simp -implicitDefEqProofs only [go_sem,tsH,tsR,bsH,bsR]
   ·exact⟨_,⟨_,rfl,_,_,rfl,.inr (.inr ⟨1,_,rfl⟩),_,_,rfl,.inr (.inr ⟨3,_,rfl⟩),rfl⟩,rfl⟩
   ·exact⟨by simp,_,⟨_,rfl,_,_,rfl,.inr (.inr ⟨1,_,rfl⟩),_,_,rfl,.inr (afc7 (b::rs)),rfl⟩,rfl⟩
   ·exact⟨by simp,_,⟨_,rfl,_,_,rfl,.inr (efc7 (a::ts)),_,_,rfl,.inr (.inr ⟨3,_,rfl⟩),rfl⟩,rfl⟩
   ·exact⟨⟨by simp,by simp⟩,_,⟨_,rfl,_,_,rfl,.inr (efc7 (a::ts)),_,_,rfl,.inr (afc7 (b::rs)),rfl⟩,rfl⟩
theorem tpc7 {y:ca7}{p:ua7}(h:YOk y) (hp:POk p):be7 Tryz.prog 21 [.agg (yh7 y),.agg (pd7 p)] (fun r=>r = .c (I6 (fb7 y p))) :=
 qj7 ⟨_,_,Tryz.func21,by kernel_rfl,rfl⟩ fun rho w vs hc=>by
  obtain⟨_,_,rfl,⟨cs,rfl,h1⟩,_,_,rfl,⟨ds,rfl,h2⟩,rfl⟩:=hc
  refine (ync7 (gfc7 h1 h.k) (cpb7 h2 hp.wf) h.chk h.nc.2 hp.small).mono ?_
  rintro e w' ⟨rfl,hb⟩
  exact⟨_,_,rfl,rfl,rfl,hb⟩
theorem dhc7 {y:ca7}{p:ua7}(h:YOk y) (hc:fb7 y p=0):mab7 y p:=by
 have hb:=ytb7 hc h.nc.2
 have gd:=rl7 h.chk
 have hl:=hb.b
 refine⟨gd,by have:=hb.tl;omega,fun t ht=>⟨by have:=hb.t1 t ht;omega,fun s hs=>((hb.ok.truck t ht).2 s hs).1⟩,by omega,fun b hbm=>?_⟩
 have h1:=hb.ok.bike b hbm
 have h2:=wdb7 hbm
 have h3:=hb.s
 exact⟨by omega,h1.1,h1.2.2⟩
def upK:CK→CK
 | .i k=>.i k
 | .s t ck b=>.s t (upKs ck) (b+1)
where upKs:List CK→List CK
 | []=>[]
 | q::l=>upK q::upKs l
def upA:AV→AV
 | .ws t ck n=>.ws t (upK.upKs ck) n
 | .wu t ck b=>.wu t (upK.upKs ck) b
 | .wp t ck o=>.wp t (upK.upKs ck) o
 | x=>x
def upL:List AV→List AV
 | []=>[]
 | x::l=>upA x::upL l
mutual
def upR:RV→RV
 | .c a=>.c (upA a)
 | .agg l=>.agg (upL l)
 | .fn f l=>.fn f (upL l)
 | .tup l=>.tup (mvc7 l)
 | .ifc t x=>.ifc t (upR x)
def mvc7:List RV→List RV
 | []=>[]
 | x::l=>upR x::mvc7 l
end
def upW:Row→Row
 | .box l=>.box (upL l)
 | .own l=>.own (l.map upL)
 | r=>r
def cmc7:Root→Root
 | .live fz t sz r=>.live fz t sz (upW r)
 | .dead=>.dead
def upH:List Root→List Root
 | []=>[]
 | r::l=>cmc7 r::upH l
def upT:Tm→Tm
 | []=>[]
 | (k,g,v)::l=>(k,g,upR v)::upT l
def upM (M:Mp):Mp:=⟨M.phi,M.off,M.rho,fun b=>(M.tau b).map fun q=>(q.1,upK.upKs q.2)⟩
section
variable {P:Program} {E:Env} {nt:Nat} {M:Mp} {H:List Root} {σ:AS} {a:Act} {w:World}
theorem sl7:∀l:List CK,(upK.upKs l).length=l.length
 | []=>rfl
 | _::l=>by simp[upK.upKs,sl7 l]
theorem qyb7:∀(l:List CK) (j:Nat) (q:CK),(upK.upKs l)[j]? = some q→∃q0,l[j]? = some q0∧q=upK q0
 | [],j,q,h=>by simp[upK.upKs]at h
 | x::l,0,q,h=>⟨x,rfl,by simpa[upK.upKs]using h.symm⟩
 | x::l,j+1,q,h=>by simpa using qyb7 l j q (by simpa[upK.upKs]using h)
theorem xxb7 {b:Nat}{t:TypeId}{ck:List CK}(h:M.tau b=some (t,ck)):(upM M).tau b=some (t,upK.upKs ck):=by
 show (M.tau b).map _=_
 rw[h];rfl
theorem rlb7 {b:Nat}{q:TypeId×List CK}(h:(upM M).tau b=some q):∃q0,M.tau b=some q0∧q=(q0.1,upK.upKs q0.2):=by
 have h:(M.tau b).map _=some q:=h
 cases hq:M.tau b with
 | none=>rw[hq]at h;cases h
 | some q0=>rw[hq]at h;exact⟨q0,rfl,(Option.some.inj h).symm⟩
theorem WSl.up {t:TypeId}{ck:List CK}{n:Nat}{v:Value}(h:WSl M w t ck n v):WSl (upM M) w t (upK.upKs ck) n v:=by
 obtain⟨x,c,rfl,h1,h2,h3,h4⟩:=h
 refine⟨x,c,rfl,h1,h2,h3,fun ad e=>?_⟩
 obtain⟨b,cur,e,g1,g2,g3⟩:=h4 ad e
 exact⟨b,cur,e,xxb7 g1,g2,by rw[sl7];exact g3⟩
theorem tab7.up {q:CK}{v:Value}(h:tab7 M w q v):tab7 (upM M) w (upK q) v:=by
 cases q with
 | i k=>exact h
 | s t ck b=>obtain⟨n,h1,h2⟩:=h;exact⟨n,by omega,h2.up⟩
theorem hl7 {id:Nat}{fz:Bool}{t:TypeId}{sz:Nat}{r:Row}:∀{H:List Root},aa7 (upH H) id = .live fz t sz r→∃r0,aa7 H id = .live fz t sz r0∧r=upW r0:=by
 intro H
 induction H generalizing id with
 | nil=>intro h;cases h
 | cons x l ih =>
  cases id with
  | zero =>
   intro h
   cases x with
   | dead=>cases h
   | live fz' t' sz' r'=>cases h;exact⟨r',rfl,rfl⟩
  | succ id=>exact fun h=>ih h
theorem ujb7:∀H:List Root,(upH H).length=H.length
 | []=>rfl
 | _::l=>by simp[upH,ujb7 l]
theorem ybb7 (r:Row):(upW r).len=r.len:=by
 cases r with
 | own l=>simp[upW,Row.len]
 | _=>rfl
theorem kgc7 (r:Row):(upW r).one=r.one:=by cases r <;> rfl
theorem tmc7 (l:List (List AV)) (i:Nat):(l.map upL).getD i []=upL (l.getD i []):=by
 simp only[List.getD_eq_getElem?_getD,List.getElem?_map]
 cases l[i]? <;> rfl
theorem ekc7 (r:Row):(upW r).isBox=r.isBox:=by cases r <;> rfl
theorem dxb7:∀(l:List AV) (o:Nat),nth (upL l) o=upA (nth l o)
 | [],_=>rfl
 | _::_,0=>rfl
 | _::l,o+1=>by simp only[upL,nth];exact dxb7 l o
theorem Con.up {x:AV}{v:Value}(h:Con M H w x v):Con (upM M) (upH H) w (upA x) v:=by
 cases x with
 | ptr id n i o =>
  refine⟨⟨by rw[ujb7];exact h.1.1,h.1.2⟩,fun fz t sz r hr=>?_⟩
  obtain⟨r0,k1,rfl⟩:=hl7 hr
  rw[ybb7]
  exact h.2 _ _ _ _ k1
 | h id st len =>
  refine⟨⟨by rw[ujb7];exact h.1.1,h.1.2⟩,fun fz t sz r hr=>?_⟩
  obtain⟨r0,k1,rfl⟩:=hl7 hr
  rw[ybb7]
  exact h.2 _ _ _ _ k1
 | ws t ck n=>exact WSl.up h
 | wu t ck b=>obtain⟨n,hb,h⟩:=h;exact⟨n,hb,WSl.up h⟩
 | wp t ck o =>
  obtain⟨b,cur,i,rfl,h1,h2,h3⟩:=h
  exact⟨b,cur,i,by rw[sl7],xxb7 h1,h2,by rw[sl7];exact h3⟩
 | junk=>trivial
 | _=>exact h
theorem re7.up:∀{l:List AV}{vs:List Value},re7 M H w l vs→re7 (upM M) (upH H) w (upL l) vs
 | [],_,h=>h
 | _::_,_,⟨v,r,e,h1,h2⟩=>⟨v,r,e,h1.up,re7.up h2⟩
mutual
theorem ra7.up:∀{x:RV}{v:Value},ra7 M H w x v→ra7 (upM M) (upH H) w (upR x) v
 | .c _,_,h=>Con.up h
 | .agg _,_,⟨vs,e,h⟩=>⟨vs,e,re7.up h⟩
 | .fn _ _,_,⟨vs,e,h⟩=>⟨vs,e,re7.up h⟩
 | .tup _,_,⟨vs,e,h⟩=>⟨vs,e,sc7.up h⟩
 | .ifc _ _,_,⟨u,e,h⟩=>⟨u,e,ra7.up h⟩
theorem sc7.up:∀{x:List RV}{vs:List Value},sc7 M H w x vs→sc7 (upM M) (upH H) w (mvc7 x) vs
 | [],_,h=>h
 | _::_,_,⟨v,r,e,h1,h2⟩=>⟨v,r,e,ra7.up h1,sc7.up h2⟩
end
theorem Rel.up (h:Rel E M H w):Rel E (upM M) (upH H) w:=by
 refine⟨h.bel,fun id fz t sz r hr=>?_,fun id fz t sz r hr=>?_,fun id t sz r hr=>?_,fun id t sz r hr=>?_,fun i j t s r t' s' r' hi hj he=>?_,h.rlt,h.src,⟨fun b q hq=>?_,fun b q id fz t sz r hq hr=>?_,fun b t ck hq=>?_⟩⟩
 ·obtain⟨r0,k1,rfl⟩:=hl7 hr;exact h.low _ _ _ _ _ k1
 ·obtain⟨r0,k1,rfl⟩:=hl7 hr
  obtain⟨cur,c1,c2,c3,c4,c5,c6⟩:=h.row _ _ _ _ _ k1
  refine⟨cur,c1,c2,by rw[ybb7];exact c3,c4,by rw[kgc7];exact c5,fun i hi o ho2=>?_⟩
  rw[ybb7]at hi
  obtain⟨v,q1,q2,q3⟩:=c6 i hi o ho2
  refine⟨v,q1,q2, ?_⟩
  unfold xj7 at q3 ⊢
  rw[ekc7]
  cases r0 with
  | box l =>
   simp only[Row.isBox,if_true]at q3 ⊢
   show Con _ _ w (nth (upL l) o) v
   rw[dxb7]
   exact q3.up
  | own l =>
   simp only[Row.isBox,if_true]at q3 ⊢
   show Con _ _ w (nth ((l.map upL).getD i []) o) v
   rw[tmc7,dxb7]
   exact q3.up
  | _=>exact q3
 ·obtain⟨r0,k1,rfl⟩:=hl7 hr;exact h.froz _ _ _ _ k1
 ·obtain⟨r0,k1,rfl⟩:=hl7 hr;exact h.thaw _ _ _ _ k1
 ·obtain⟨r0,k1,rfl⟩:=hl7 hi
  obtain⟨r1,k2,rfl⟩:=hl7 hj
  exact h.inj _ _ _ _ _ _ _ _ k1 k2 he
 ·obtain⟨q0,k1,rfl⟩:=rlb7 hq;exact h.tau.new b q0 k1
 ·obtain⟨q0,k1,rfl⟩:=rlb7 hq
  obtain⟨r0,k2,rfl⟩:=hl7 hr
  exact h.tau.row _ _ _ _ _ _ _ k1 k2
 ·obtain⟨q0,k1,e⟩:=rlb7 hq
  cases e
  obtain⟨cur,c1,c2,c3,c4⟩:=h.tau.cells b q0.1 q0.2 k1
  refine⟨cur,c1,by rw[sl7];exact c2,by rw[sl7];exact c3,fun k hk=>?_⟩
  obtain⟨v,v1,v2⟩:=c4 k hk
  refine⟨v,v1,fun q hq2=>?_⟩
  rw[sl7]at hq2
  obtain⟨q1,k3,rfl⟩:=qyb7 _ _ _ hq2
  exact (v2 _ k3).up
theorem zvb7:∀(tm:Tm) (t:Nat),lk (upT tm) t=((lk tm t).1,upR (lk tm t).2)
 | [],_=>rfl
 | (k,g,v)::l,t=>by
  simp only[upT,lk]
  split
  ·rfl
  ·exact zvb7 l t
def upS (σ:AS):AS:=⟨upT σ.tm,upH σ.H⟩
theorem St.up (h:St E nt M σ a w):St E nt (upM M) (upS σ) a w:=by
 refine⟨h.rel.up,fun t ht=>?_,fun t ht=>?_,h.sz,h.df⟩
 ·have ht:(lk (upT σ.tm) t).1=true:=ht
  show ra7 _ _ w (lk (upT σ.tm) t).2 _
  rw[zvb7]at ht ⊢
  exact (h.tms t ht).up
 ·have ht:(lk (upT σ.tm) t).1=false:=ht
  rw[zvb7]at ht
  exact h.off t ht
end
inductive Tr where
 | d (u:Bool)
 | no
 | br (w:Bool) (i:Nat) (t r:Tr)
inductive Pl where
 | a
 | s (p q:Pl)
 | c (p q:Pl)
 | b (p:Pl)
 | k (ks:List Nat) (p q:Pl)
 | t (lq:List Nat) (T:Tr) (r fins:List Nat)
def upIf:Bool→AS→AS
 | true,σ=>upS σ
 | false,σ=>σ
def keepS (ks:List Nat) (σ:AS):AS:=⟨fxT σ.tm ks,σ.H⟩
def puT:Bool→Pu
 | true=>none
 | false=>some none
section
variable (P:Program) (ty:Ty)
def iqb7 (ops:Array Oper) (r:List Nat):Tr→(AS→Prop)→AS→Prop
 | .d u,K,σ=>rq7 P ty r.length none ops (pick ops r) K (upIf u σ)
 | .no,_,_=>True
 | .br w i t q,K,σ=>ip7 P ty (puT w) none ops σ (ops.getD i default) (iqb7 ops r t K)∧iqb7 ops r q K σ
def gbc7 (ops:Array Oper) (T:Tr) (r:List Nat):List Oper→(AS→Prop)→AS→Prop
 | [],K,σ=>iqb7 P ty ops r T K σ
 | o::l,K,σ=>ip7 P ty (some none) none ops σ o (gbc7 ops T r l K)
def zs7 (ord:Nat→List Nat×Nat×Option DD):Pl→Code→(Exit→AS→Prop)→AS→Prop
 | .a,c,Q,σ=>awp P ty ord c Q σ
 | .s p q,.seq x y,Q,σ=>zs7 ord p x (bm7 (zs7 ord q y Q) Q) σ
 | .c p q,.cond x y z,Q,σ=>mdb7 (σ.rd x) (zs7 ord p y Q σ) (zs7 ord q z Q σ)
 | .b p,.block id x,Q,σ=>zs7 ord p x (inB id Q) σ
 | .k ks p q,.seq x y,Q,σ=>∃R:AS→Prop,zs7 ord p x (bm7 (fun σ'=>R (keepS ks σ')) Q) σ∧∀σ',R σ'→zs7 ord q y Q σ'
 | .t lq T r _,.region _ ops true,Q,σ=>gbc7 P ty ops T r (pick ops lq) (Q .normal) σ
 | _,_,_,_=>False
end
def dzc7:Tr→Bool
 | .d _=>false
 | _=>true
def qjc7 (ops:Array Oper) (fins r:List Nat):Tr→Nat→Bool→List Nat→Array Bool→Bool
 | .d _,n,_,_,l=>decide (r.length=n)&&cqb7 ops fins r l
 | .no,n,_,al,l=>decide (0<n)&&decide (Region.ready .any ops l≠[])&&(Region.ready .any ops l).all (al.contains ·)
 | .br w i t q,n,dy,al,l=>decide (i<ops.size)&&(!w || dy || fins.contains i)&&dzc7 q&&qjc7 ops fins r t (n-1) (dy || w) [] (l.setIfInBounds i true)&&qjc7 ops fins r q n dy (i::al) l
def iwc7 (nt:Nat) (ops:Array Oper) (lq:List Nat) (T:Tr) (r:List Nat) (fins:List Nat):Bool :=
 sj7 nt ops&&Region.noSelect ops&&decide (lq.length≤ops.size)&&lq.all (fun i=>decide (i<ops.size)&&isV (ops.getD i default).op)&&match jm7 .any ops fins lq (Array.replicate ops.size false) with
  | some listed=>qjc7 ops fins r T (ops.size-lq.length) false [] listed
  | none=>false
def okD (nt:Nat) (ord:Nat→List Nat×Nat×Option DD):Pl→Code→Bool
 | .a,c=>okC nt ord c
 | .s p q,.seq x y=>okD nt ord p x&&okD nt ord q y
 | .c p q,.cond _ x y=>okD nt ord p x&&okD nt ord q y
 | .b p,.block _ x=>okD nt ord p x
 | .k _ p q,.seq x y=>okD nt ord p x&&okD nt ord q y
 | .t lq T r fins,.region _ ops true=>iwc7 nt ops lq T r fins
 | _,_=>false
section
variable {P:Program} {ty:Ty} {E:Env} {nt:Nat} {M:Mp} {σ:AS} {a:Act} {w w0:World} {ops:Array Oper} {K:AS→Prop} {Q:Exit→Act→World→Prop} {fins r:List Nat}
theorem St.upIf (h:St E nt M σ a w):∀u:Bool,∃M',St E nt M' (upIf u σ) a w
 | true=>⟨_,h.up⟩
 | false=>⟨_,h⟩
theorem St.keepS (h:St E nt M σ a w) (ks:List Nat):St E nt M (keepS ks σ) a w:=by
 refine⟨h.rel,fun t ht=>?_,fun t ht=>?_,h.sz,h.df⟩
 ·have ht:(lk (fxT σ.tm ks) t).1=true:=ht
  show ra7 M σ.H w (lk (fxT σ.tm ks) t).2 _
  rcases qp7 σ.tm ks t with ⟨-,e⟩ | ⟨-,e⟩
  ·rw[e]at ht ⊢; exact h.tms t ht
  ·rw[e];trivial
 ·have ht:(lk (fxT σ.tm ks) t).1=false:=ht
  rcases qp7 σ.tm ks t with ⟨-,e⟩ | ⟨-,e⟩
  ·rw[e]at ht;exact h.off t ht
  ·rw[e]at ht;cases ht
theorem kdb7 (hT:ud7 P ty) (hd:sj7 nt ops=true) (hQ:∀M σ a w,St E nt M σ a w→K σ→Q .normal a w) {nf:Nat}:∀(r:List Nat) {M:Mp}{σ:AS}{a:Act}{w:World}{l:Array Bool},St E nt M σ a w→rq7 P ty nf none ops (pick ops r) K σ→cqb7 ops fins r l=true→wpAny P .any ops Q r.length l a w
 | [],M,σ,a,w,l,h,hw,hc=>⟨by simpa[cqb7]using hc,hQ _ _ _ _ h hw⟩
 | i::r,M,σ,a,w,l,h,hw,hc=>by
  simp only[cqb7,Bool.and_eq_true,decide_eq_true_eq]at hc
  obtain⟨⟨⟨h1,h2⟩,h3⟩,h4⟩:=hc
  refine⟨fun h0=>(by rw[h1]at h0;cases h0),fun j hj=>?_⟩
  rw[h1,List.mem_singleton]at hj
  subst hj
  exact rr7 h2 (st7 hT h (dst_at hd h2) (show ip7 P ty _ none ops σ (ops.getD j default) (rq7 P ty nf none ops (pick ops r) K) from hw) (fun M' σ' a' w' q1 _ _ q4=>kdb7 hT hd hQ r q1 q4 h4) (fun _ _ h=>(qa7 h).elim))
def zyb7 (P:Program) (ops:Array Oper) (Q:Exit→Act→World→Prop) (fins:List Nat) (w0:World) (dy:Bool) (n:Nat) (l:Array Bool) (a:Act) (w:World):Prop :=
 if dy then wpAny P .any ops Q n l a w else af7 P .any ops Q (ef7 none w0) fins n l a w
theorem hlb7 (hT:ud7 P ty) (hd:sj7 nt ops=true) (hQ:∀M σ a w,St E nt M σ a w→K σ→Q .normal a w):∀(T:Tr) {n:Nat}{dy:Bool}{al:List Nat}{l:Array Bool}{M:Mp}{σ:AS}{a:Act}{w:World},St E nt M σ a w→qjc7 ops fins r T n dy al l=true→iqb7 P ty ops r T K σ→(dy=false→ef7 none w0 w) →
  ((∃u,T = .d u)∧zyb7 P ops Q fins w0 dy n l a w)∨((0<n∧Region.ready .any ops l≠[])∧∀m,n=m+1→∀i∈Region.ready .any ops l,i∈al∨wpOp P ops Q i (fun a' w'=>if dy then wpAny P .any ops Q m (l.setIfInBounds i true) a' w' else (i∈fins∧wpAny P .any ops Q m (l.setIfInBounds i true) a' w')∨(ef7 none w0 w'∧af7 P .any ops Q (ef7 none w0) fins m (l.setIfInBounds i true) a' w')) a w)
 | .d u,n,dy,al,l,M,σ,a,w,h,hc,hw,ho=>by
  obtain⟨M,h⟩:=h.upIf u
  simp only[qjc7,Bool.and_eq_true,decide_eq_true_eq]at hc
  obtain⟨rfl,hc⟩:=hc
  refine .inl ⟨⟨u,rfl⟩, ?_⟩
  unfold zyb7
  split
  ·exact kdb7 hT hd hQ r h hw hc
  ·cases r with
   | nil=>exact⟨by simpa[cqb7]using hc,hQ _ _ _ _ h hw⟩
   | cons i r =>
    simp only[cqb7,Bool.and_eq_true,decide_eq_true_eq]at hc
    obtain⟨⟨⟨h1,h2⟩,h3⟩,h4⟩:=hc
    refine⟨fun h0=>(by rw[h1]at h0;cases h0),fun j hj=>?_⟩
    rw[h1,List.mem_singleton]at hj
    subst hj
    exact rr7 h2 (st7 hT h (dst_at hd h2) (show ip7 P ty _ none ops (upIf u σ) (ops.getD j default) (rq7 P ty (j::r).length none ops (pick ops r) K) from hw) (fun M' σ' a' w' q1 _ _ q4=>.inl ⟨by simpa using h3,kdb7 hT hd hQ r q1 q4 h4⟩) (fun _ _ h=>(qa7 h).elim))
 | .no,n,dy,al,l,M,σ,a,w,h,hc,hw,ho=>by
  simp only[qjc7,Bool.and_eq_true,decide_eq_true_eq,List.all_eq_true]at hc
  exact .inr ⟨hc.1,fun m _ i hi=>.inl (by simpa using hc.2 i hi)⟩
 | .br wr i t q,n,dy,al,l,M,σ,a,w,h,hc,hw,ho=>by
  simp only[qjc7,Bool.and_eq_true,decide_eq_true_eq]at hc
  obtain⟨⟨⟨⟨h1,h2⟩,h3⟩,h4⟩,h5⟩:=hc
  rcases hlb7 hT hd hQ q h h5 hw.2 ho with ⟨⟨u,e⟩,-⟩ | ⟨k1,k2⟩
  ·subst e
   cases h3
  ·refine .inr ⟨k1,fun m hm j hj=>?_⟩
   rcases k2 m hm j hj with hj2 | hj2
   ·rcases List.mem_cons.1 hj2 with rfl | hj2
    ·refine .inr (rr7 h1 (st7 hT h (dst_at hd h1) hw.1 (fun M' σ' a' w' q1 q2 _ q4=>?_) (fun _ _ h=>(qa7 h).elim)))
     have hold:dy=false→wr=false→ef7 none w0 w':=fun e1 e2=>by subst e2;exact (ho e1).step (q2 none rfl)
     have ih:=hlb7 hT hd hQ t q1 h4 q4 (fun e=>by
      rw[Bool.or_eq_false_iff]at e
      exact hold e.1 e.2)
     have ih2:zyb7 P ops Q fins w0 (dy || wr) m (l.setIfInBounds j true) a' w':=by
      have e:n-1=m:=by omega
      rw[e]at ih
      rcases ih with ⟨-,ih⟩ | ⟨⟨g0,g1⟩,g2⟩
      ·exact ih
      ·unfold zyb7
       cases m with
       | zero=>omega
       | succ m =>
        split
        ·rename_i hdy
         refine⟨fun h0=>absurd h0 g1,fun i hi=>?_⟩
         have:=(g2 m rfl i hi).resolve_left (by simp)
         rw[hdy]at this
         simpa using this
        ·rename_i hdy
         refine⟨fun h0=>absurd h0 g1,fun i hi=>?_⟩
         have:=(g2 m rfl i hi).resolve_left (by simp)
         rw[Bool.eq_false_iff.2 hdy]at this
         simpa using this
     unfold zyb7 at ih2
     cases dy with
     | true=>simpa using ih2
     | false =>
      cases wr with
      | true=>exact .inl ⟨by simpa using h2,by simpa using ih2⟩
      | false=>exact .inr ⟨hold rfl rfl,by simpa using ih2⟩
    ·exact .inl hj2
   ·exact .inr hj2
theorem ghb7 (hT:ud7 P ty) (hd:sj7 nt ops=true) {T:Tr}:∀(lq:List Nat) {M:Mp}{σ:AS}{a:Act},St E nt M σ a w→(∀i∈lq,i<ops.size∧isV (ops.getD i default).op=true)→gbc7 P ty ops T r (pick ops lq) K σ →
  wpQuiet P ops (fun w'=>∃e:At (ef7 none w),w'=e.val) (fun a'=>∃M' σ',St E nt M' σ' a' w∧iqb7 P ty ops r T K σ') (lq.map fun j=>ops.getD j default) a
 | [],M,σ,a,h,_,hw=>⟨M,σ,h,hw⟩
 | i::lq,M,σ,a,h,hl,hw=>by
  obtain⟨h1,h2⟩:=hl i (List.mem_cons_self ..)
  have hw':peb7 ty (guardOf σ.tm ops (ops.getD i default).guard) none σ (ops.getD i default) (gbc7 P ty ops T r (pick ops lq) K):=by
   have:ip7 P ty _ none ops σ (ops.getD i default) _:=hw
   unfold ip7 at this
   rw[if_pos h2]at this
   exact this
  obtain⟨σ',v,k1,k2,k3,k4,k5⟩:=ilb7 hT h h2 (dst_at hd h1) hw'
  have ih:=ghb7 hT hd lq k3 (fun j hj=>hl j (List.mem_cons_of_mem _ hj)) k1
  simp only[List.map_cons]
  unfold wpQuiet
  by_cases hwt:Region.wanted (ops.getD i default) (yielded ops a.tmps)=true
  ·rw[if_pos hwt]
   refine⟨v, ?_,ih⟩
   rintro w1 ⟨e,rfl⟩
   unfold Oper.quietAt
   rw[k4 hwt e.val e.ok]
   exact⟨rfl,rfl⟩
  ·rw[if_neg hwt]
   rw[k5 (by simpa using hwt)]at ih
   exact ih
theorem aic7 (hT:ud7 P ty) (hm:P.follows .mixedOrders=true) {id:Nat}{lq:List Nat}{T:Tr}(hB:iwc7 nt ops lq T r fins=true) (h:St E nt M σ a w) (hw:gbc7 P ty ops T r (pick ops lq) K σ) (hQ:∀M σ a w,St E nt M σ a w→K σ→Q .normal a w) (hQp:∀c a w,¬Q (.panic c) a w):(Code.region id ops true).wp P Q a w:=by
 unfold iwc7 at hB
 simp only[Bool.and_eq_true,decide_eq_true_eq,List.all_eq_true]at hB
 obtain⟨⟨⟨⟨b1,b2⟩,b3⟩,b4⟩,b5⟩:=hB
 split at b5
 case h_2=>cases b5
 rename_i listed hq
 have hb:Below w.heap.size w w.drew:=(Below.refl _ _).drew
 have h2:St E nt M σ a w.drew:=⟨h.rel.below hb,fun t ht=>(Kp.below h.rel hb).R (h.tms t ht),h.off,h.sz,h.df⟩
 refine wp_region_any hm (eg7 (S:=ef7 none w.drew) (fins:=fins) _ _ _ _ ?_)
 rw[show ops.size=lq.length+(ops.size-lq.length) by omega]
 refine ij7 b2 (fun c a d v w hh=>(hQp _ _ _ hh).elim) (ef7.refl _ _) lq _ listed a (fun j oj _ hl=>by rw[getD_replicate_false]at hl;cases hl) (by rw[show lq.length+(ops.size-lq.length)=ops.size by omega];exact hq) (ghb7 hT b1 lq h2 b4 hw) fun a' _ ⟨M',σ',q1,q2⟩=>?_
 rcases hlb7 (w0:=w.drew) hT b1 hQ T q1 b5 q2 (fun _=>ef7.refl _ _) with ⟨-,h⟩ | ⟨⟨g0,g1⟩,g2⟩
 ·exact h
 ·obtain⟨m,hm⟩:∃m,ops.size-lq.length=m+1:=⟨ops.size-lq.length-1,by omega⟩
  rw[hm]
  exact⟨fun h0=>absurd h0 g1,fun i hi=>(g2 m hm i hi).resolve_left (by simp)⟩
theorem rk7 (hT:ud7 P ty) (hm:P.follows .mixedOrders=true) {ord:Nat→List Nat×Nat×Option DD}:∀(p:Pl) (c:Code),okD nt ord p c=true→∀{Q:Exit→AS→Prop}{M:Mp}{σ:AS}{a:Act}{w:World},St E nt M σ a w→zs7 P ty ord p c Q σ →
  c.wp P (fun e a' w'=>(∀ch,e ≠ .panic ch)∧∃M' σ',St E nt M' σ' a' w'∧Q e σ') a w
 | .a,c,hc,Q,M,σ,a,w,h,hw=>wp_mono (vl7 hT hm c hc h hw) fun e a1 w1 hA=>hA.elim (fun ⟨hp,M1,σ1,q1,q2,q3⟩=>⟨hp,M1,σ1,q1,q3⟩) fun ⟨_,_,_,hP⟩=>(qa7 hP).elim
 | .s p q,c,hc,Q,M,σ,a,w,h,hw=>by
  cases c with
  | seq x y =>
   simp only[okD,Bool.and_eq_true]at hc
   refine wp_seq (wp_mono (rk7 hT hm p x hc.1 h (Q:=bm7 (zs7 P ty ord q y Q) Q) hw) fun e a1 w1 ⟨hp,M1,σ1,q1,q3⟩=>?_)
   cases e with
   | normal=>exact rk7 hT hm q y hc.2 q1 q3
   | panic ch=>exact absurd rfl (hp ch)
   | exit id=>exact⟨hp,M1,σ1,q1,q3⟩
   | goto l=>exact⟨hp,M1,σ1,q1,q3⟩
   | ret=>exact⟨hp,M1,σ1,q1,q3⟩
   | outgrown=>exact⟨hp,M1,σ1,q1,q3⟩
  | _=>exact Bool.noConfusion hc
 | .c p q,c,hc,Q,M,σ,a,w,h,hw=>by
  cases c with
  | cond x y z =>
   simp only[okD,Bool.and_eq_true]at hc
   have hw':mdb7 (σ.rd x) (zs7 P ty ord p y Q σ) (zs7 P ty ord q z Q σ):=hw
   unfold mdb7 at hw'
   split at hw'
   ·rename_i b hb
    have hv:=h.rd (x:=x) (by rw[hb])
    rw[hb]at hv
    have hv':a.eval x = .bool b:=hv
    refine wp_cond hv' ?_
    cases b with
    | true=>exact rk7 hT hm p y hc.1 h (hw'.1 rfl)
    | false=>exact rk7 hT hm q z hc.2 h (hw'.2 rfl)
   ·exact hw'.elim
  | _=>exact Bool.noConfusion hc
 | .b p,c,hc,Q,M,σ,a,w,h,hw=>by
  cases c with
  | block id x =>
   refine wp_block (wp_mono (rk7 hT hm p x hc h (Q:=inB id Q) hw) fun e a1 w1 ⟨hp,M1,σ1,q1,q3⟩=>?_)
   cases e with
   | exit j =>
    simp only[Exit.inBlock]
    simp only[inB]at q3
    split
    ·rename_i e;rw[if_pos e]at q3;exact⟨fun _ e=>(by cases e),M1,σ1,q1,q3⟩
    ·rename_i e;rw[if_neg e]at q3;exact⟨hp,M1,σ1,q1,q3⟩
   | normal=>exact⟨hp,M1,σ1,q1,q3⟩
   | panic ch=>exact absurd rfl (hp ch)
   | goto l=>exact⟨hp,M1,σ1,q1,q3⟩
   | ret=>exact⟨hp,M1,σ1,q1,q3⟩
   | outgrown=>exact⟨hp,M1,σ1,q1,q3⟩
  | _=>exact Bool.noConfusion hc
 | .k ks p q,c,hc,Q,M,σ,a,w,h,hw=>by
  cases c with
  | seq x y =>
   simp only[okD,Bool.and_eq_true]at hc
   obtain⟨R,h1,h2⟩:=hw
   refine wp_seq (wp_mono (rk7 hT hm p x hc.1 h h1) fun e a1 w1 ⟨hp,M1,σ1,q1,q3⟩=>?_)
   cases e with
   | normal=>exact rk7 hT hm q y hc.2 (q1.keepS ks) (h2 _ q3)
   | panic ch=>exact absurd rfl (hp ch)
   | exit id=>exact⟨hp,M1,σ1,q1,q3⟩
   | goto l=>exact⟨hp,M1,σ1,q1,q3⟩
   | ret=>exact⟨hp,M1,σ1,q1,q3⟩
   | outgrown=>exact⟨hp,M1,σ1,q1,q3⟩
  | _=>exact Bool.noConfusion hc
 | .t lq T r fins,c,hc,Q,M,σ,a,w,h,hw=>by
  cases c with
  | region id ops dr =>
   cases dr with
   | false=>exact Bool.noConfusion hc
   | true=>exact aic7 hT hm hc h hw (fun M σ a w q1 q2=>⟨fun _ e=>(by cases e),M,σ,q1,q2⟩) fun c a w hh=>hh.1 c rfl
  | _=>exact Bool.noConfusion hc
section
variable {ord:Nat→List Nat×Nat×Option DD} {Q:Exit→AS→Prop} {p q:Pl}
theorem arb7 {c:Code}:zs7 P ty ord .a c Q σ=awp P ty ord c Q σ:=by cases c <;> rfl
theorem csb7 {x y:Code}:zs7 P ty ord (.s p q) (.seq x y) Q σ=zs7 P ty ord p x (bm7 (zs7 P ty ord q y Q) Q) σ:=rfl
theorem lwb7 {x:Operand}{y z:Code}:zs7 P ty ord (.c p q) (.cond x y z) Q σ=mdb7 (σ.rd x) (zs7 P ty ord p y Q σ) (zs7 P ty ord q z Q σ):=rfl
theorem oyb7 {id:Nat}{x:Code}:zs7 P ty ord (.b p) (.block id x) Q σ=zs7 P ty ord p x (inB id Q) σ:=rfl
theorem qmb7 {lq:List Nat}{T:Tr}{id:Nat}:zs7 P ty ord (.t lq T r fins) (.region id ops true) Q σ=gbc7 P ty ops T r (pick ops lq) (Q .normal) σ:=rfl
theorem vrc7 {T:Tr}:gbc7 P ty ops T r [] K σ=iqb7 P ty ops r T K σ:=rfl
theorem xrc7 {T:Tr}{o:Oper}{l:List Oper}:gbc7 P ty ops T r (o::l) K σ=ip7 P ty (some none) none ops σ o (gbc7 P ty ops T r l K):=rfl
theorem vtc7:iqb7 P ty ops r (.d false) K σ=rq7 P ty r.length none ops (pick ops r) K σ:=rfl
theorem qxc7:iqb7 P ty ops r (.d true) K σ=rq7 P ty r.length none ops (pick ops r) K (upS σ):=rfl
theorem muc7 {ks:List Nat}{x y:Code}(R:AS→Prop) (h1:zs7 P ty ord p x (bm7 (fun σ'=>R (keepS ks σ')) Q) σ) (h2:∀σ',R σ'→zs7 P ty ord q y Q σ'):zs7 P ty ord (.k ks p q) (.seq x y) Q σ:=⟨R,h1,h2⟩
theorem bec7 {ks:List Nat}{tm:Tm}{H:List Root}:keepS ks ⟨tm,H⟩=⟨fxT tm ks,H⟩:=rfl
theorem qbc7:iqb7 P ty ops r .no K σ=True:=rfl
theorem msc7 {wr:Bool}{i:Nat}{t q:Tr}:iqb7 P ty ops r (.br wr i t q) K σ=(ip7 P ty (puT wr) none ops σ (opD ops.toList i) (iqb7 P ty ops r t K)∧iqb7 P ty ops r q K σ):=by
 simp[iqb7,lnb7,List.getD_eq_getElem?_getD,Array.getD_eq_getD_getElem?]
theorem hyc7:isW (puT true)=True:=rfl
theorem u_S {tm:Tm}{H:List Root}:upS ⟨tm,H⟩=⟨upT tm,upH H⟩:=rfl
theorem hzc7:upT []=[]:=rfl
theorem fyc7 {k:Nat}{g:Bool}{v:RV}{l:Tm}:upT ((k,g,v)::l)=(k,g,upR v)::upT l:=rfl
theorem eyc7:upH []=[]:=rfl
theorem ixc7 {l:List Root}:upH (.dead::l) = .dead::upH l:=rfl
theorem rzc7 {l:List Root}{fz:Bool}{t:TypeId}{sz:Nat}{m:List AV}:upH (.live fz t sz (.box m)::l) = .live fz t sz (.box (upL m))::upH l:=rfl
theorem jxc7:upL []=[]:=rfl
theorem azc7 {x:AV}{l:List AV}:upL (x::l)=upA x::upL l:=rfl
theorem u_c {x:AV}:upR (.c x) = .c (upA x):=rfl
theorem u_a {l:List AV}:upR (.agg l) = .agg (upL l):=rfl
theorem u_f {f:FuncId}{l:List AV}:upR (.fn f l) = .fn f (upL l):=rfl
theorem wtc7 {k:IntKind}{n:Int}:upA (.int k n) = .int k n:=rfl
theorem tlc7 {b:Bool}:upA (.bool b) = .bool b:=rfl
theorem loc7:upA .nils = .nils:=rfl
theorem qnc7:upA .junk = .junk:=rfl
theorem ewc7 {id n i o:Nat}:upA (.ptr id n i o) = .ptr id n i o:=rfl
theorem u_h {id st len:Nat}:upA (.h id st len) = .h id st len:=rfl
theorem yyc7 {n sz:Nat}{f:Nat→Nat→AV}:upA (.sl n sz f) = .sl n sz f:=rfl
theorem cyc7 {n:Nat}{f:Nat→AV}:upA (.rp n f) = .rp n f:=rfl
theorem vxc7 {t:TypeId}{ck:List CK}{n:Nat}:upA (.ws t ck n) = .ws t (upK.upKs ck) n:=rfl
theorem uyc7 {t:TypeId}{ck:List CK}{n:Nat}:upA (.wu t ck n) = .wu t (upK.upKs ck) n:=rfl
theorem xyc7 {t:TypeId}{ck:List CK}{n:Nat}:upA (.wp t ck n) = .wp t (upK.upKs ck) n:=rfl
end
theorem ctb7 (d : Nat) (p : Pl) (hT : ud7 P ty) (hm : P.follows .mixedOrders = true) {f : FuncId} {fn : Func} {c : Code} (ord : Nat → List Nat × Nat × Option DD) (hf : P.funcs[f]? = some fn) (hb : fn.body = some c) (hname : (fn.name == "runtime.NumGoroutine") = false) {n : Nat} (hnt : fn.ntmps = n) {rs : List ResultVar} (hr : fn.results.toList = rs)
  (hok:okD n ord p c=true) {args:List RV} (hn:args.length≤n) {post:RV→Prop}
  (h:zs7 P ty ord p c (ldc7 ty rs (rvc7 d post)) ⟨eib7 0 args,[]⟩):be7 P f args post:=by
 refine⟨⟨fn,c,hf,hname,hb⟩,fun rho w vs hgl hrho hc=>calls_of_wp hf hb ?_⟩
 have hrel:Rel (Env.of w rho) ⟨fun _=>0,fun _=>0,rho,fun _=>none⟩ [] w:=⟨Bel.of _ _,fun _ _ _ _ _ h=>(by cases h),fun _ _ _ _ _ h=>(by cases h),fun _ _ _ _ h=>(by cases h),fun _ _ _ _ h=>(by cases h),fun _ _ _ _ _ _ _ _ h=>(by cases h),hrho,⟨fun b hb=>.inl hb,hgl⟩,⟨fun _ _ h=>(by cases h),fun _ _ _ _ _ _ _ h=>(by cases h),fun _ _ _ h=>(by cases h)⟩⟩
 have hst:=St.enter hrel rfl (qd7.up (M:=⟨fun _=>0,fun _=>0,rho,fun _=>none⟩) (H:=[]) hc) (n:=n) hn
 rw[hnt]
 refine wp_mono (rk7 hT hm p c hok hst h) fun e a' w' ⟨hp,M',σ',q1,q3⟩=>?_
 have fin:(eo7 ty σ' rs).1∧rvc7 d post (one (eo7 ty σ' rs).2) σ'.H→a'.defers=[]∧∃v,(results fn a'.tmps).run P w' = .ok v w'∧∃r v' rho',Ending.returned v = .returned v'∧post r∧xg7 rho' w' r v'∧(∀b,rho' b→rho b∨(w.heap.size≤b∧b<w'.heap.size))∧Below w.heap.size w w':=by
  rintro⟨h1,l,h2,h3,h4⟩
  obtain⟨v,k1,k2⟩:=ni7 hT q1 hr h1
  rw[h2]at k1
  obtain⟨us,rfl,k1⟩:=k1
  obtain⟨l',l1,l2⟩:=gfb7 (rho:=fun b=>M'.rho b∨∃q,M'.tau b=some q) q1.rel.tau (fun b q hq=>.inr ⟨q,hq⟩) h3 k1
  obtain⟨m,m1,m2⟩:=h4 l' l1
  refine⟨q1.df,_,k2,.agg m,_,_,rfl,m2,⟨us,rfl,l2.eqv m1⟩,fun b hb=>?_,q1.rel.belN⟩
  rcases hb with hb | ⟨q,hq⟩
  ·rcases q1.rel.src.1 b hb with h | h | h
   ·exact .inl h
   ·exact .inr ⟨h,q1.rel.rlt b hb⟩
   ·exact h.elim
  ·exact .inr ⟨(q1.rel.tau.new b q hq).1,q1.rel.tau.lt hq⟩
 cases e with
 | normal=>exact fin q3
 | ret=>exact fin q3
 | panic ch=>exact absurd rfl (hp ch)
 | exit id=>exact q3.elim
 | goto l=>exact q3.elim
 | outgrown=>exact q3.elim
theorem iub7 (p : Pl) (hT : ud7 P ty) (hm : P.follows .mixedOrders = true) {f : FuncId} {fn : Func} {c : Code} (ord : Nat → List Nat × Nat × Option DD) (hf : P.funcs[f]? = some fn) (hb : fn.body = some c) (hname : (fn.name == "runtime.NumGoroutine") = false) {n : Nat} (hnt : fn.ntmps = n) {rs : List ResultVar} (hr : fn.results.toList = rs)
  (hok:okD n ord p c=true) {args:List RV} (hn:args.length≤n) {post:RV→Prop}
  (h:zs7 P ty ord p c (ldc7 ty rs (wvc7 post)) ⟨eib7 0 args,[]⟩):be7 P f args post:=by
 refine⟨⟨fn,c,hf,hname,hb⟩,fun rho w vs hgl hrho hc=>calls_of_wp hf hb ?_⟩
 have hrel:Rel (Env.of w rho) ⟨fun _=>0,fun _=>0,rho,fun _=>none⟩ [] w:=⟨Bel.of _ _,fun _ _ _ _ _ h=>(by cases h),fun _ _ _ _ _ h=>(by cases h),fun _ _ _ _ h=>(by cases h),fun _ _ _ _ h=>(by cases h),fun _ _ _ _ _ _ _ _ h=>(by cases h),hrho,⟨fun b hb=>.inl hb,hgl⟩,⟨fun _ _ h=>(by cases h),fun _ _ _ _ _ _ _ h=>(by cases h),fun _ _ _ h=>(by cases h)⟩⟩
 have hst:=St.enter hrel rfl (qd7.up (M:=⟨fun _=>0,fun _=>0,rho,fun _=>none⟩) (H:=[]) hc) (n:=n) hn
 rw[hnt]
 refine wp_mono (rk7 hT hm p c hok hst h) fun e a' w' ⟨hp,M',σ',q1,q3⟩=>?_
 have fin:(eo7 ty σ' rs).1∧(okT σ'.H (one (eo7 ty σ' rs).2)∧∃r',ksb7 (xmc7 σ'.H (one (eo7 ty σ' rs).2)) r'∧post r')→a'.defers=[]∧∃v,(results fn a'.tmps).run P w' = .ok v w'∧∃r v' rho',Ending.returned v = .returned v'∧post r∧xg7 rho' w' r v'∧(∀b,rho' b→rho b∨(w.heap.size≤b∧b<w'.heap.size))∧Below w.heap.size w w':=by
  rintro⟨h1,h2,r',h3,h4⟩
  obtain⟨v,k1,k2⟩:=ni7 hT q1 hr h1
  obtain⟨M2,H2,k3,k4⟩:=hsb7 q1.rel h2 k1
  refine⟨q1.df,v,k2,r',v,M2.rho,rfl,h4,k4.eqv h3,fun b hb=>?_,q1.rel.belN⟩
  rcases k3.src.1 b hb with h | h | h
  ·exact .inl h
  ·exact .inr ⟨h,k3.rlt b hb⟩
  ·exact h.elim
 cases e with
 | normal=>exact fin q3
 | ret=>exact fin q3
 | panic ch=>exact absurd rfl (hp ch)
 | exit id=>exact q3.elim
 | goto l=>exact q3.elim
 | outgrown=>exact q3.elim
end
theorem wec7 {xs ys:List Int}(hx:∀v∈xs,oa7 v) (hy:∀v∈ys,oa7 v):be7 Tryz.prog 51 [.c (ld7 xs),.c (ld7 ys)] (fun r=>r = .c (.bool (decide (xs=ys)))) :=
 qj7 ⟨_,_,Tryz.func51,by kernel_rfl,rfl⟩ fun rho w vs hcv=>by
  obtain⟨_,_,rfl,h1,_,_,rfl,h2,rfl⟩:=hcv
  refine (pob7 (bs (e:=fun (x:Int) _=>I6 x) 0 ryb7 h1 hx) (bs (e:=fun (x:Int) _=>I6 x) 0 ryb7 h2 hy)).mono ?_
  rintro e w' ⟨rfl,n,rfl⟩
  exact⟨_,_,rfl,rfl,rfl,below_drewN (Below.refl _ _) n⟩
theorem ttb7 {t:nb7}(h:cz7 t) (k:Nat):∀v∈im7 t k,oa7 v:=by
 unfold im7
 rw[List.getD_eq_getElem?_getD]
 by_cases hk:k<t.trucks.length
 ·rw[List.getElem?_eq_getElem hk];exact h.trucks _ (List.getElem_mem hk)
 ·rw[List.getElem?_eq_none (by omega)];intro v hv;cases hv
theorem jyb7 {t:nb7}(h:cz7 t) (k:Nat):tec7 (nf7 t k):=by
 unfold nf7
 rw[List.getD_eq_getElem?_getD]
 by_cases hk:k<t.bikes.length
 ·rw[List.getElem?_eq_getElem hk];exact h.bikes _ (List.getElem_mem hk)
 ·rw[List.getElem?_eq_none (by omega)];exact⟨by unfold oa7;simp,by unfold oa7;simp,fun v hv=>by cases hv⟩
theorem hxb7 {a b:nb7}(h1:a.trucks.length=b.trucks.length) (h2:a.bikes.length=b.bikes.length) (h3:∀i,i<a.trucks.length→im7 a i=im7 b i) (h4:∀i,i<a.bikes.length→nf7 a i=nf7 b i):a=b:=by
 obtain⟨at_,ab⟩:=a
 obtain⟨bt,bb⟩:=b
 simp only[nb7.mk.injEq]
 constructor
 ·refine List.ext_getElem h1 fun i k1 k2=>?_
  have:=h3 i k1
  unfold im7 at this
  rw[mj7 k1,mj7 k2]at this
  exact this
 ·refine List.ext_getElem h2 fun i k1 k2=>?_
  have:=h4 i k1
  unfold nf7 at this
  rw[mj7 k1,mj7 k2]at this
  exact this
theorem wcc7 {r q:ka7}(h1:r.out=q.out) (h2:r.starts=q.starts) (h3:r.back=q.back):r=q:=by
 cases r;cases q;cases h1;cases h2;cases h3;rfl
theorem hnc7 {a b:nb7}(ha:cz7 a) (hb:cz7 b) (hla:a.trucks.length≤1000000000000000∧a.bikes.length≤1000000000000000):be7 Tryz.prog 33 [.agg (mb7 a),.agg (mb7 b)] (fun r=>r = .c (.bool (decide (a=b)))):=by
 refine vc7 zb7 (by kernel_rfl) (fun _=>([],0,none)) Tryz.func33 rfl (by kernel_rfl) Tryz.ntmps33 (congrArg Array.toList Tryz.results33) (by kernel_rfl) (by simp) ?_
 simp -implicitDefEqProofs only [go_sem,mb7]
 refine⟨fun h=>?_,fun h=>?_⟩
 ·simp only[Bool.or_eq_true,decide_eq_true_eq]at h
  rw[decide_eq_false]
  rintro rfl
  simp at h
 ·simp only[Bool.or_eq_false_iff,decide_eq_false_iff_not,Decidable.not_not]at h
  obtain⟨hl1,hl2⟩:a.trucks.length=b.trucks.length∧a.bikes.length=b.bikes.length:=by omega
  refine ec7 (ι:=Nat) [2,3,25] [26] (fun k=>k≤a.trucks.length∧∀i,i<k→im7 a i=im7 b i) (fun k=>[.c (I6 k)]) (fun _=>_) (fun k=>a.trucks.length-k) (by kernel_rfl) ⟨0,⟨Nat.zero_le _,fun i hi=>absurd hi (Nat.not_lt_zero _)⟩,rfl,rfl⟩ (fun k _=>⟨rfl,rfl,rfl,rfl⟩) ?_
  rintro k ⟨hk,hi⟩
  simp -implicitDefEqProofs only [go_sem]
  refine⟨fun h=>?_,fun h=>?_⟩
  ·have hlt:k<a.trucks.length:=by omega
   refine⟨by omega,by omega, ?_⟩
   refine pb7 (wec7 (ttb7 ha k) (ttb7 hb k)) ⟨trivial,trivial,trivial⟩ rfl (fun r h=>by subst h;rfl) ?_
   rintro r rfl
   simp -implicitDefEqProofs only [go_sem]
   refine⟨fun hne=>?_,fun he=>?_⟩
   ·rw[decide_eq_false]
    rintro rfl
    exact hne rfl
   ·simp only[Bool.not_eq_false',decide_eq_true_eq]at he
    refine⟨by omega,k+1,⟨by omega,fun i h=>?_⟩,rfl,by omega⟩
    by_cases e:i=k
    ·subst e;exact he
    ·exact hi i (by omega)
  ·obtain rfl:k=a.trucks.length:=by omega
   refine ec7 (ι:=Nat) [2,3,44] [45] (fun k=>k≤a.bikes.length∧∀i,i<k→nf7 a i=nf7 b i) (fun k=>[.c (I6 k)]) (fun _=>_) (fun k=>a.bikes.length-k) (by kernel_rfl) ⟨0,⟨Nat.zero_le _,fun i hi=>absurd hi (Nat.not_lt_zero _)⟩,rfl,rfl⟩ (fun k _=>⟨rfl,rfl,rfl,rfl⟩) ?_
   rintro k ⟨hk,hj⟩
   simp -implicitDefEqProofs only [go_sem]
   refine⟨fun h=>?_,fun h=>?_⟩
   ·have hlt:k<a.bikes.length:=by omega
    have hwa:=jyb7 ha k
    have hwb:=jyb7 hb k
    refine⟨by omega,by omega,fun _=>by omega,fun _=>by omega,fun _=>by omega,fun _=>by omega,fun h1=>?_,fun h1=>?_⟩
    ·refine pb7 (wec7 hwa.2.2 hwb.2.2) ⟨trivial,trivial,trivial⟩ rfl (fun r h=>by subst h;rfl) ?_
     rintro r rfl
     simp -implicitDefEqProofs only [go_sem]
     refine⟨fun hne=>?_,fun he=>?_⟩
     ·rw[decide_eq_false]
      rintro rfl
      simp at hne
     ·simp only[Bool.or_eq_false_iff,decide_eq_false_iff_not,Bool.not_eq_false',decide_eq_true_eq,Decidable.not_not]at he
      refine⟨by omega,k+1,⟨by omega,fun i h=>?_⟩,rfl,by omega⟩
      by_cases e:i=k
      ·subst e;exact wcc7 he.1.1 he.2 he.1.2
      ·exact hj i (by omega)
    ·have h2:(decide ¬(nf7 a k).out=(nf7 b k).out || decide ¬(nf7 a k).back=(nf7 b k).back)=true:=by
      simpa only[Bool.not_eq_false']using h1
     refine⟨fun h3=>(by rw[h2]at h3;cases h3),h2, ?_⟩
     rw[decide_eq_false]
     rintro rfl
     simp at h2
   ·obtain rfl:k=a.bikes.length:=by omega
    rw[decide_eq_true (hxb7 hl1 hl2 hi hj)]
end Go.Proofs.YtedahhjopmkbbaaGreat.Ab

namespace Go.Proofs.YtedahhjopmkbbaaGreat.Ab
open Go.RowKit
variable {P:Program} {ty:Ty}
theorem iw7.env [Pan] {E:Env}{d:List Deferred}{M:Mp}{H:List Root}{w w':World}{ch:List PanicEntry}(h:iw7 ⟨E.W0,E.rho0,d,E.ex,E.exk⟩ M H w ch w'):iw7 E M H w ch w':=by
 obtain⟨M2,H2,r,v,e,k1,k2⟩:=h
 exact⟨M2,H2,r,v,e,k1.env2,k2⟩
theorem hf7 [Pan] (hT : ud7 P ty) (hm : P.follows .mixedOrders = true) {f : FuncId} {fn : Func} {c : Code} (ord : Nat → List Nat × Nat × Option DD) (hf : P.funcs[f]? = some fn) (hb : fn.body = some c) (hname : (fn.name == "runtime.NumGoroutine") = false) {n : Nat} (hnt : fn.ntmps = n) {rs : List ResultVar} (hr : fn.results.toList = rs)
  (hok:okC n ord c=true) {args:List RV} (hn:args.length≤n) {H:List Root} {K:RV→List Root→Prop}
  (h:awp P ty ord c (ldc7 ty rs K) ⟨eib7 0 args,H⟩):lb7 P none f args H K:=by
 refine⟨⟨fn,c,hf,hname,hb⟩,fun E M w vs hrel hc=>calls_of_wp hf hb ?_⟩
 have hst:=St.enter (hrel.env []) rfl hc (n:=n) hn
 rw[hnt]
 refine wp_mono (vl7 hT hm c hok hst h) fun e a' w' hA=>?_
 rcases hA with ⟨hp,M',σ',q1,q2,q3⟩ | ⟨ch,rfl,hdf,hP⟩
 case inr=>exact⟨hdf,.inr ⟨ch,rfl,hP.env⟩⟩
 have fin:(eo7 ty σ' rs).1∧K (one (eo7 ty σ' rs).2) σ'.H→a'.defers=[]∧∃v,(results fn a'.tmps).run P w' = .ok v w'∧((∃M' H' r v',Ending.returned v = .returned v'∧Rel E M' H' w'∧Kp M H w M' H' w'∧ra7 M' H' w' r v'∧(∀g,(none:Pu)=some g→ef7 (g.map M.phi) w w')∧H.length≤H'.length∧K r H')∨∃ch,Ending.returned v = .panicked ch∧iw7 E M H w ch w'):=by
  rintro⟨h1,h2⟩
  obtain⟨v,k1,k2⟩:=ni7 hT q1 hr h1
  exact⟨q1.df,v,k2,.inl ⟨M',σ'.H,_,v,rfl,q1.rel.env2,q2.kp,k1,fun g e=>(by cases e),q2.len,h2⟩⟩
 cases e with
 | normal=>exact fin q3
 | ret=>exact fin q3
 | panic ch=>exact absurd rfl (hp ch)
 | exit id=>exact q3.elim
 | goto l=>exact q3.elim
 | outgrown=>exact q3.elim
theorem hdc7 {rho:Nat→Prop}{w:World}{g:Nat}{x:AV}(h:glV g=some x) (_:ko7 w) (_:rho g):ad7 rho w x (.pointer (some ⟨g,0,none⟩)):=by cases h
theorem fub7 {rho:Nat→Prop}{w:World}:qq7 rho w:=⟨trivial,fun _ _ h=>by cases h⟩
theorem mnc7 {P:Program}{f:FuncId}{args:List RV}{w:World}{vs:List Value}(h:be7 P f args (fun r=>r = .c (.bool true))) (hc:qd7 (fun b=>b<w.heap.size) w args vs):Calls P f vs.toArray w fun e w'=>e = .returned (.bool true)∧Below w.heap.size w w':=by
 refine (h.2 _ w vs fub7 (fun _ h=>h) hc).mono ?_
 rintro e w' ⟨r,v,rho',rfl,rfl,h1,-,h2⟩
 obtain rfl:v = .bool true:=h1
 exact⟨rfl,h2⟩
end Go.Proofs.YtedahhjopmkbbaaGreat.Ab

namespace Go.Proofs.YtedahhjopmkbbaaGreat.Ab
open Go.RowKit
abbrev eI8 (l:List Int):AV:=.sl l.length 1 (fun i _=>.int .i8 (l.getD i 0))
theorem jk7 {H:List Root}{pu:Pu}{kn ks:Nat}{x n what:Int}{l:List Int}(hpu:pu=none∨pu=some (some kn)) (r1:aa7 H kn = .live false 3 1 (.box [.int .i64 n])) (r2:aa7 H ks = .live false 31 2 (.box [eI8 l,.int .u8 what])) (hne:ks≠kn)
  (hl:∀v∈l,-128≤v∧v≤127) (hll:l.length≤9223372036854775807) (hn:0≤n∧n≤1000000000000) (hx:-10000000000000000≤x∧x≤10000000000000000) {K:RV→List Root→Prop}
  (hK:K (.c (.int .i64 (x+az7 l n))) (da7 H kn (.live false 3 1 (.box [.int .i64 (n+1)])))) :
  lb7 Tryz.prog pu 52 [.c (.int .i64 x),.c (.ptr kn 1 0 0),.c (.ptr ks 1 0 0)] H K:=by
 refine⟨⟨_,_,Tryz.func52,by kernel_rfl,rfl⟩,fun E M w vs h hc=>?_⟩
 obtain⟨_,_,rfl,c0,v1,_,rfl,c1,v2,_,rfl,c2,rfl⟩:=hc
 obtain rfl:=c0
 obtain⟨cur,a1,a2,a3,a4,a5,a6⟩:=h.row _ _ _ _ _ r1
 have o1:M.off kn=0:=(a5 rfl).1
 obtain⟨cur2,b1,b2,b3,b4,b5,b6⟩:=h.row _ _ _ _ _ r2
 have o2:M.off ks=0:=(b5 rfl).1
 obtain rfl:v1 = .pointer (some ⟨M.phi kn,0*1+0,none⟩):=by have:=(c1.2 _ _ _ _ r1).2 rfl;rw[o1]at this;simpa using this
 obtain rfl:v2 = .pointer (some ⟨M.phi ks,0*2+0,none⟩):=by have:=(c2.2 _ _ _ _ r2).2 rfl;rw[o2]at this;simpa using this
 rw[o1]at a6
 rw[o2]at b6
 simp only[Nat.zero_add]at a6 b6
 obtain⟨u,u1,-,u2⟩:=a6 0 (Nat.zero_lt_one) 0 (Nat.zero_lt_one)
 obtain rfl:u = .int .i64 n:=u2
 have R:_root_.Go.Proofs.YtedahhjopmkbbaaGreat.Row w (M.phi kn) 3 [.int .i64 n]:=⟨cur,cur.toList.drop 1,a1,by
  obtain⟨cl⟩:=cur
  cases cl with
  | nil=>simp at u1
  | cons q cl=>simp at u1;simp[u1]⟩
 obtain⟨sv,s1,-,s2⟩:=b6 0 (Nat.zero_lt_one) 0 (by decide)
 obtain⟨a,b,off,c,rfl,g1,g2,g3,g4⟩:ad7 M.rho w (eI8 l) sv:=s2
 have hs:w.cell? ⟨M.phi ks,0,none⟩=some (.slice a l.length c):=by
  have:cur2[0]? = some (.slice a l.length c):=s1
  simp[World.cell?,b1,this]
 have hphi:M.phi ks≠M.phi kn:=fun e=>hne (h.inj _ _ _ _ _ _ _ _ r2 r1 e)
 obtain⟨b',hb1,hb2,hb3⟩:∃b',b'≠M.phi kn∧(0<l.length→a=some ⟨b',off,none⟩)∧(0<l.length→b'=b):=by
  by_cases h0:0<l.length
  ·exact⟨b,fun e=>h.thaw _ _ _ _ r1 (e ▸ (g3 h0).2),fun _=>(g3 h0).1,fun _=>rfl⟩
  ·exact⟨M.phi kn+1,by omega,fun h=>absurd h h0,fun h=>absurd h h0⟩
 obtain⟨w2,q1,q2,q3,-⟩:=lu7 (P:=Tryz.prog) h r1 (i:=0) (o:=0) (cs:=[.int .i64 (n+1)]) (vs:=[.int .i64 (n+1)]) Nat.zero_lt_one (Nat.le_refl _) (fun v hv=>by obtain rfl:=List.mem_singleton.1 hv;rfl) rfl (fun j v hv=>by
  cases j with
  | zero=>cases hv;exact rfl
  | succ j=>simp at hv) trivial
 have hw2:w2=w.setCell ⟨M.phi kn,0,none⟩ (.int .i64 (n+1)):=by
  have c0:=R.cell (j:=0) (by simp)
  have f0:=R.frozen 0
  have:=run_storeCells_cells (P:=Tryz.prog) (M.phi kn) 0 [.int .i64 (n+1)] 0 w (fun j hj=>by
   obtain rfl:j=0:=by simpa using hj
   simp[c0]) (fun j hj=>by
   obtain rfl:j=0:=by simpa using hj
   simpa using f0) (fun v hv=>by obtain rfl:=List.mem_singleton.1 hv;rfl)
  rw[show (⟨M.phi kn,M.off kn+0*1+0,none⟩:Addr)=⟨M.phi kn,0,none⟩ by rw[o1],this]at q3
  cases q3
  rfl
 subst hw2
 refine (coc7 (x:=x) R hs hphi hb1 hb2 (fun k hk=>?_) hn hx hll).mono ?_
 ·obtain⟨u,k1,k2⟩:=g4 k hk 0 (by decide)
  obtain rfl:=hb3 (by omega)
  have k2:u = .int .i8 (l.getD k 0):=k2
  rw[List.getD_eq_getElem?_getD,List.getElem?_eq_getElem hk]at k2
  simp only[Option.getD_some]at k2
  subst k2
  refine⟨by rw[← k1];congr 2;omega,hl _ (List.getElem_mem hk)⟩
 ·rintro e w' ⟨rfl,hb⟩
  refine .inl ⟨M,_,.c (.int .i64 (x+az7 l n)),_,rfl,q1.below hb,q2.trans (Kp.below q1 hb),rfl,fun g hg=>?_,by rw[ha7];exact Nat.le_refl _,hK⟩
  rcases hpu with rfl | rfl
  ·cases hg
  ·cases hg
   refine⟨Nat.le_trans (by simp[World.setCell]) hb.size,fun k hk hk2=>?_⟩
   rw[hb.block k (by simpa[World.setCell]using hk)]
   exact Below.heap_setCell _ _ _ _ (fun e=>hk2 (by rw[e];rfl))
abbrev ckI:List CK:=[.i .i64]
abbrev ssc7 (b:Nat):List CK:=[.s 2 ckI b]
abbrev gsc7 (b:Nat):List CK:=[.i .i64,.s 2 ckI b,.i .i64]
abbrev ckT:List CK:=ssc7 200000
abbrev ckR:List CK:=gsc7 200000
def jgb7 (r:RV):Prop:=∃t:nb7,r = .agg (mb7 t)∧(∀l∈t.trucks,∀v∈l,oa7 v)∧(∀r∈t.bikes,oa7 r.out∧oa7 r.back∧∀v∈r.starts,oa7 v)∧t.trucks.length≤200000∧t.bikes.length≤200000
theorem mkL {α:Type}{n:Nat}{P:Nat→α→Prop}(d:α) (key:∀i,i<n→∃a,P i a):∃l:List α,l.length=n∧∀i,i<n→P i (l.getD i d):=by
 refine⟨(List.range n).map fun i=>if h:i<n then (key i h).choose else d,by simp,fun i hi=>?_⟩
 have e:((List.range n).map fun i=>if h:i<n then (key i h).choose else d).getD i d=(key i hi).choose:=by
  rw[wh7 (by simpa using hi)];simp[hi]
 rw[e];exact (key i hi).choose_spec
theorem osb7 {d:Nat}{x:AV}(h:Rd d (.i .i64) x):∃v,x = .int .i64 v∧oa7 v:=by
 cases d <;> exact h
theorem fzb7 {x:AV}{b:Nat}(h:Rd 1 (.s 2 ckI b) x):∃l:List Int,(∀v∈l,oa7 v)∧Eqv x (ld7 l):=by
 obtain⟨n,f,rfl,-,h2⟩:=h
 obtain⟨l,hl,h4⟩:=mkL (n:=n) (P:=fun i v=>f i 0 = .int .i64 v∧oa7 v) (0:Int) fun i hi=>osb7 (h2 i hi 0 (.i .i64) rfl)
 subst hl
 refine⟨l,fun v hv=>?_,_,rfl,fun i hi j hj=>?_⟩
 ·obtain⟨i,hi,rfl⟩:=List.getElem_of_mem hv
  have:=(h4 i hi).2
  rwa [wh7 hi]at this
 ·obtain rfl:j=0:=Nat.lt_one_iff.1 hj
  rw[(h4 i hi).1];rfl
theorem jwb7 {n b:Nat}{x:AV}(h:RdS 1 (ssc7 b) n x):∃L:List (List Int),L.length=n∧(∀l∈L,∀v∈l,oa7 v)∧Eqv x (.sl L.length 1 (fun i _=>ld7 (L.getD i []))):=by
 obtain⟨f,rfl,h2⟩:=h
 obtain⟨L,hl,h4⟩:=mkL (n:=n) (P:=fun i l=>(∀v∈l,oa7 v)∧Eqv (f i 0) (ld7 l)) ([]:List Int) fun i hi=>fzb7 (h2 i hi 0 _ rfl)
 subst hl
 refine⟨L,rfl,fun l hm=>?_,_,rfl,fun i hi j hj=>?_⟩
 ·obtain⟨i,hi,rfl⟩:=List.getElem_of_mem hm
  have:=(h4 i hi).1
  rwa [wh7 hi]at this
 ·obtain rfl:j=0:=Nat.lt_one_iff.1 hj
  exact (h4 i hi).2
theorem vac7 {n b:Nat}{x:AV}(h:RdS 1 (gsc7 b) n x):∃L:List ka7,L.length=n∧(∀r∈L,oa7 r.out∧oa7 r.back∧∀v∈r.starts,oa7 v)∧Eqv x (.sl L.length 3 (fun i=>ix3 (I6 (L.getD i ⟨0,[],0⟩).out) (ld7 (L.getD i ⟨0,[],0⟩).starts) (I6 (L.getD i ⟨0,[],0⟩).back))):=by
 obtain⟨f,rfl,h2⟩:=h
 obtain⟨L,hl,h4⟩:=mkL (n:=n) (P:=fun i (r:ka7)=>(oa7 r.out∧oa7 r.back∧∀v∈r.starts,oa7 v)∧f i 0=I6 r.out∧Eqv (f i 1) (ld7 r.starts)∧f i 2=I6 r.back) (⟨0,[],0⟩:ka7) fun i hi=>by
  obtain⟨a,a1,a2⟩:=osb7 (h2 i hi 0 (.i .i64) rfl)
  obtain⟨l,l1,l2⟩:=fzb7 (h2 i hi 1 _ rfl)
  obtain⟨c,c1,c2⟩:=osb7 (h2 i hi 2 (.i .i64) rfl)
  exact⟨⟨a,l,c⟩,⟨a2,c2,l1⟩,a1,l2,c1⟩
 subst hl
 refine⟨L,rfl,fun l hm=>?_,_,rfl,fun i hi j hj=>?_⟩
 ·obtain⟨i,hi,rfl⟩:=List.getElem_of_mem hm
  have:=(h4 i hi).1
  rwa [wh7 hi]at this
 ·obtain⟨-,k1,k2,k3⟩:=h4 i hi
  match j,hj with
  | 0,_=>rw[k1];rfl
  | 1,_=>exact k2
  | 2,_=>rw[k3];rfl
theorem nec7 {k:Nat}{a b:AV}{H:List Root}(ha:a = .nils∨∃n,n≤200000∧a = .ws 60 (ssc7 k) n) (hb:b = .nils∨∃n,n≤200000∧b = .ws 63 (gsc7 k) n):rvc7 1 jgb7 (.agg [a,b]) H:=by
 refine⟨[a,b],rfl, ?_, ?_⟩
 ·rcases ha with rfl | ⟨n,-,rfl⟩ <;> rcases hb with rfl | ⟨m,-,rfl⟩ <;> rfl
 ·rintro l' ⟨x,_,rfl,hx,y,_,rfl,hy,rfl⟩
  have h1:∃L:List (List Int),L.length≤200000∧(∀l∈L,∀v∈l,oa7 v)∧Eqv x (.sl L.length 1 (fun i _=>ld7 (L.getD i []))):=by
   rcases ha with rfl | ⟨n,hn,rfl⟩
   ·obtain rfl:x = .nils:=hx
    exact⟨[],Nat.zero_le _,fun l h=>(by cases h),.inr ⟨1,_,rfl⟩⟩
   ·obtain⟨L,l1,l2,l3⟩:=jwb7 hx
    exact⟨L,by omega,l2,l3⟩
  have h2:∃L:List ka7,L.length≤200000∧(∀r∈L,oa7 r.out∧oa7 r.back∧∀v∈r.starts,oa7 v)∧Eqv y (.sl L.length 3 (fun i=>ix3 (I6 (L.getD i ⟨0,[],0⟩).out) (ld7 (L.getD i ⟨0,[],0⟩).starts) (I6 (L.getD i ⟨0,[],0⟩).back))):=by
   rcases hb with rfl | ⟨n,hn,rfl⟩
   ·obtain rfl:y = .nils:=hy
    exact⟨[],Nat.zero_le _,fun l h=>(by cases h),.inr ⟨3,_,rfl⟩⟩
   ·obtain⟨L,l1,l2,l3⟩:=vac7 hy
    exact⟨L,by omega,l2,l3⟩
  obtain⟨L,l1,l2,l3⟩:=h1
  obtain⟨B,b1,b2,b3⟩:=h2
  exact⟨mb7 ⟨L,B⟩,⟨_,_,rfl,.inr l3,_,_,rfl,.inr b3,rfl⟩,⟨L,B⟩,rfl,l2,b2,l1,b1⟩
def wkM (b t:Nat):Option (List CK):=if t=2 then some ckI else if t=60 then some (ssc7 b) else if t=63 then some (gsc7 b) else none
def tyW (b:Nat):Ty:=fun t=>⟨(ty t).sz,(ty t).bytes,(ty t).k,(ty t).zero,wkM b t⟩
theorem qzc7 {b:Bool}{x:RV}:wAp (puT true) b x=True:=rmc7
theorem pg7 (b t:Nat):(tyW b t).sz=(ty t).sz:=rfl
theorem qb7 (b t:Nat):(tyW b t).bytes=(ty t).bytes:=rfl
theorem il7 (b t:Nat):(tyW b t).k=(ty t).k:=rfl
theorem rc7 (b t:Nat):(tyW b t).zero=(ty t).zero:=rfl
theorem ng7 (b t:Nat):(tyW b t).wk=wkM b t:=rfl
theorem xpc7 (b:Nat):ud7 Tryz.prog (tyW b):=fun t=>⟨by
 have:=(zb7 t).k
 show kOk _ (tyW b) t (ty t).k
 cases hq:(ty t).k <;> rw[hq]at this <;> exact this,(zb7 t).i⟩
def qpc7:Tr:=.br false 0 (.br false 1 (.br false 7 (.br true 8 (.d true) .no) .no) (.br false 7 (.br false 1 (.br true 8 (.d true) .no) (.br true 8 (.br false 1 (.d true) .no) .no)) .no)) (.br false 7 (.br false 0 (.br false 1 (.br true 8 (.d true) .no) (.br true 8 (.br false 1 (.d true) .no) .no)) (.br true 8 (.br false 0 (.br false 1 (.d true) .no) .no) .no)) .no)
def emc7:Pl:=.s .a (.s .a (.s .a (.s .a (.s .a (.s .a (.s (.s .a (.b (.s .a (.c .a (.s .a (.c .a (.s .a (.c (.s .a (.c (.t [2,3,4,5,6] qpc7 [9,10,11] [8,9,10,11]) .a)) .a)))))))) .a))))))
def wsH (t:TypeId) (ck:List CK):Nat→AV
 | 0=>.nils
 | n+1=>.ws t ck (n+1)
theorem wo7 (t:TypeId) (ck:List CK):wsH t ck 0 = .nils:=rfl
theorem ap7 (t:TypeId) (ck:List CK) (n:Nat):wsH t ck (n+1) = .ws t ck (n+1):=rfl
theorem ueb7 (t:TypeId) (ck:List CK) (n k:Nat):(wsH t ck n).scp k=true:=by cases n <;> rfl
structure lgb7 (l:List Int) (what:Int):Prop where
 b:∀v∈l,-128≤v∧v≤127
 len:l.length≤9223372036854775807
 w:0≤what∧what≤255
structure swc7 (t:nb7):Prop where
 tl:t.trucks.length≤100000
 bl:t.bikes.length≤100000
 tr:∀l∈t.trucks,l.length≤100000∧∀v∈l,0≤v∧v≤1000000000000000
 bk:∀r∈t.bikes,r.starts.length≤100000∧(0≤r.out∧r.out≤1000000000000000)∧(0≤r.back∧r.back≤1000000000000000)∧∀v∈r.starts,0≤v∧v≤1000000000000000
def cm7 (t:nb7) (l:List Int) (what:Int) (n:Nat) (a b:AV):List Root :=
 [.live false 45 2 (.box (mb7 t)),.live false 31 2 (.box [eI8 l,.int .u8 what]),.live false 45 2 (.box [.nils,.nils]),.live false 3 1 (.box [I6 n]),.live false 45 2 (.box [a,b])]
theorem up7 {l:List Int}(h:∀v∈l,-128≤v∧v≤127) (n:Int):-128≤az7 l n∧az7 l n≤127:=by
 unfold az7
 split
 ·omega
 ·exact h _ (mg7 (Nat.mod_lt _ (by omega)) 0)
theorem wfc7 {t:nb7}{l:List Int}{what:Int}(ht:swc7 t) (hs:lgb7 l what):be7 Tryz.prog 22 [.agg (mb7 t),.agg [eI8 l,.int .u8 what]] jgb7:=by
 have htl:=ht.tl;have hbl:=ht.bl
 refine ctb7 1 emc7 (xpc7 200000) (by kernel_rfl) (fun n=>match n with | 22=>([],3,some (.r 3)) | _=>([],0,none)) Tryz.func22 rfl (by kernel_rfl) Tryz.ntmps22 (congrArg Array.toList Tryz.results22) (by kernel_rfl) (by simp) ?_
 simp -implicitDefEqProofs only [go_sem,emc7,arb7,csb7,lwb7,oyb7,qmb7,mb7,pg7,qb7,il7,rc7,ng7,wkM]
 refine ec7 (ι:=Nat×Nat) [2,3,4,6,7,20,21] [22] (fun s=>s.1≤t.trucks.length∧s.2≤s.1*100000) (fun s=>[.c (I6 s.1)]) (fun s=>cm7 t l what s.2 (wsH 60 ckT s.1) .nils) (fun s=>t.trucks.length-s.1) (by kernel_rfl) ⟨(0,0),⟨Nat.zero_le _,Nat.le_refl _⟩,rfl,rfl⟩ (fun s _=>⟨rfl,rfl,by simp only[cm7,mb7,abb7,egb7,ueb7];rfl,rfl⟩) ?_
 rintro⟨k,m⟩ ⟨hk,hm⟩
 simp only[]at hk hm
 simp -implicitDefEqProofs only [go_sem,arb7,csb7,lwb7,oyb7,qmb7,cm7,mb7,pg7,qb7,il7,rc7,ng7,wkM]
 refine⟨fun h=>?_,fun h=>?_⟩
 ·have hlt:k<t.trucks.length:=by omega
  obtain⟨hl1,hl2⟩:=ht.tr _ (mg7 hlt [])
  have hl1:(im7 t k).length≤100000:=hl1
  refine⟨by omega, ?_⟩
  refine ec7 (ι:=Nat) [2,3,4,6,7,20,21,22,26,27] [10,28] (fun j=>j≤(im7 t k).length) (fun j=>[.c (wsH 2 ckI j),.c (I6 j)]) (fun j=>cm7 t l what (m+j) (wsH 60 ckT k) .nils) (fun j=>(im7 t k).length-j) (by kernel_rfl) ⟨0,Nat.zero_le _,rfl,rfl⟩ (fun s _=>⟨rfl,by simp only[wy7,mkc7,ueb7];rfl,by simp only[cm7,mb7,abb7,egb7,ueb7];rfl,rfl⟩) ?_
  intro j hj
  have hxv:j<(im7 t k).length→0≤(im7 t k).getD j 0∧(im7 t k).getD j 0≤1000000000000000:=fun hj=>hl2 _ (mg7 hj 0)
  have had:=up7 hs.b ((m+j:Nat):Int)
  rcases j with _ | j <;> rcases k with _ | k
  all_goals
   simp -implicitDefEqProofs only [go_sem,arb7,csb7,lwb7,oyb7,qmb7,cm7,mb7,pg7,qb7,il7,rc7,ng7,wkM,wo7,ap7]
   refine⟨fun h2=>?_,fun h2=>?_⟩
  ·have hx:=hxv (by omega)
   have had:=up7 hs.b (m:Int)
   refine⟨by omega, ?_⟩
   refine jk7 (l:=l) (what:=what) (kn:=3) (ks:=1) (n:=((m+0:Nat):Int)) (.inl rfl) rfl rfl (by decide) hs.b hs.len (by omega) (by omega) ?_
   simp -implicitDefEqProofs only [go_sem,arb7,csb7,lwb7,oyb7,qmb7,cm7,mb7,pg7,qb7,il7,rc7,ng7,wkM,wo7,ap7]
   exact⟨by omega,by omega,1,by omega,rfl,rfl,by omega⟩
  ·exact⟨by omega,(1,m),⟨by omega,by (try simp only[]);omega⟩,rfl,rfl,by simp only[];omega⟩
  ·have hx:=hxv (by omega)
   have had:=up7 hs.b (m:Int)
   refine⟨by omega, ?_⟩
   refine jk7 (l:=l) (what:=what) (kn:=3) (ks:=1) (n:=((m+0:Nat):Int)) (.inl rfl) rfl rfl (by decide) hs.b hs.len (by omega) (by omega) ?_
   simp -implicitDefEqProofs only [go_sem,arb7,csb7,lwb7,oyb7,qmb7,cm7,mb7,pg7,qb7,il7,rc7,ng7,wkM,wo7,ap7]
   exact⟨by omega,by omega,1,by omega,rfl,rfl,by omega⟩
  ·exact⟨by omega,by omega,(k+2,m),⟨by omega,Nat.le_trans hm (Nat.mul_le_mul_right _ (by omega))⟩,rfl,rfl,by simp only[];omega⟩
  ·have hx:=hxv (by omega)
   refine⟨by omega, ?_⟩
   refine jk7 (l:=l) (what:=what) (kn:=3) (ks:=1) (n:=((m+(j+1):Nat):Int)) (.inl rfl) rfl rfl (by decide) hs.b hs.len (by omega) (by omega) ?_
   simp -implicitDefEqProofs only [go_sem,arb7,csb7,lwb7,oyb7,qmb7,cm7,mb7,pg7,qb7,il7,rc7,ng7,wkM,wo7,ap7]
   exact⟨by omega,by omega,by omega,j+2,by omega,rfl,rfl,by omega⟩
  ·exact⟨by omega,by omega,(1,m+(j+1)),⟨by omega,by (try simp only[]);omega⟩,rfl,rfl,by simp only[];omega⟩
  ·have hx:=hxv (by omega)
   refine⟨by omega, ?_⟩
   refine jk7 (l:=l) (what:=what) (kn:=3) (ks:=1) (n:=((m+(j+1):Nat):Int)) (.inl rfl) rfl rfl (by decide) hs.b hs.len (by omega) (by omega) ?_
   simp -implicitDefEqProofs only [go_sem,arb7,csb7,lwb7,oyb7,qmb7,cm7,mb7,pg7,qb7,il7,rc7,ng7,wkM,wo7,ap7]
   exact⟨by omega,by omega,by omega,j+2,by omega,rfl,rfl,by omega⟩
  ·exact⟨by omega,by omega,by omega,(k+2,m+(j+1)),⟨by omega,by (try simp only[]);omega⟩,rfl,rfl,by simp only[];omega⟩
 ·obtain rfl:k=t.trucks.length:=by omega
  clear hk h
  refine ec7 (ι:=Nat×Nat) [3,4,6,7,47,48] [49] (fun s=>s.1≤t.bikes.length∧s.2≤10000000000+s.1*100002) (fun s=>[.c (I6 s.1)]) (fun s=>cm7 t l what s.2 (wsH 60 ckT t.trucks.length) (wsH 63 ckR s.1)) (fun s=>t.bikes.length-s.1) (by kernel_rfl) ⟨(0,m),⟨Nat.zero_le _,by simp only[];omega⟩,rfl,rfl⟩ (fun s _=>⟨rfl,rfl,by simp only[cm7,mb7,abb7,egb7,ueb7];rfl,rfl⟩) ?_
  clear hm
  rintro⟨k,m⟩ ⟨hk,hm⟩
  simp only[]at hk hm
  simp -implicitDefEqProofs only [go_sem,arb7,csb7,lwb7,oyb7,qmb7,cm7,mb7,pg7,qb7,il7,rc7,ng7,wkM]
  refine⟨fun h=>?_,fun h=>?_⟩
  ·have hlt:k<t.bikes.length:=by omega
   obtain⟨hr1,hr2,hr3,hr4⟩:=ht.bk _ (mg7 hlt ⟨0,[],0⟩)
   have hr1:(nf7 t k).starts.length≤100000:=hr1
   have hr2:0≤(nf7 t k).out∧(nf7 t k).out≤1000000000000000:=hr2
   have hr3:0≤(nf7 t k).back∧(nf7 t k).back≤1000000000000000:=hr3
   have had:=up7 hs.b (m:Int)
   refine⟨by omega, ?_⟩
   refine jk7 (l:=l) (what:=what) (kn:=3) (ks:=1) (n:=(m:Int)) (.inl rfl) rfl rfl (by decide) hs.b hs.len (by omega) (by omega) ?_
   generalize hv0:(nf7 t k).out+az7 l (m:Int)=v0
   simp -implicitDefEqProofs only [go_sem,arb7,csb7,lwb7,oyb7,qmb7,cm7,mb7,pg7,qb7,il7,rc7,ng7,wkM]
   refine ec7 (ι:=Nat) [3,4,6,7,14,15,47,48,49,59,60] [61] (fun j=>j≤(nf7 t k).starts.length) (fun j=>[.c (I6 j)]) (fun j=>cm7 t l what (m+1+j) (wsH 60 ckT t.trucks.length) (wsH 63 ckR k)++[.live false 63 3 (.box [I6 (nf7 t k).out,ld7 (nf7 t k).starts,I6 (nf7 t k).back]),.live false 63 3 (.box [I6 v0,wsH 2 ckI j,I6 0])]) (fun j=>(nf7 t k).starts.length-j) (by kernel_rfl) ⟨0,Nat.zero_le _,rfl,rfl⟩ (fun s _=>⟨rfl,rfl,by simp only[cm7,mb7,List.cons_append,List.nil_append,abb7,egb7,ueb7];rfl,rfl⟩) ?_
   intro j hj
   have hxv:j<(nf7 t k).starts.length→0≤(nf7 t k).starts.getD j 0∧(nf7 t k).starts.getD j 0≤1000000000000000:=fun hj=>hr4 _ (mg7 hj 0)
   have had1:=up7 hs.b ((m+1+j:Nat):Int)
   rcases j with _ | j <;> rcases k with _ | k
   all_goals
    simp -implicitDefEqProofs only [go_sem,arb7,csb7,lwb7,oyb7,qmb7,cm7,mb7,pg7,qb7,il7,rc7,ng7,wkM,wo7,ap7]
    refine⟨fun h2=>?_,fun h2=>?_⟩
   ·have hx:=hxv (by omega)
    simp only[Nat.add_zero]at had1
    refine⟨by omega, ?_⟩
    refine jk7 (l:=l) (what:=what) (kn:=3) (ks:=1) (n:=((m+1+0:Nat):Int)) (.inr rfl) rfl rfl (by decide) hs.b hs.len (by omega) (by omega) ?_
    simp -implicitDefEqProofs only [go_sem,pg7,qb7,il7,rc7,ng7,wkM,wo7,ap7]
    exact⟨by omega,by omega,1,by omega,rfl,rfl,by omega⟩
   ·simp only[Nat.add_zero]at had1
    refine jk7 (l:=l) (what:=what) (kn:=3) (ks:=1) (n:=((m+1+0:Nat):Int)) (.inl rfl) rfl rfl (by decide) hs.b hs.len (by omega) (by omega) ?_
    simp -implicitDefEqProofs only [go_sem,pg7,qb7,il7,rc7,ng7,wkM,wo7,ap7]
    exact⟨by omega,by omega,(1,m+2),⟨by omega,by (try simp only[]);omega⟩,rfl,rfl,by simp only[];omega⟩
   ·have hx:=hxv (by omega)
    simp only[Nat.add_zero]at had1
    refine⟨by omega, ?_⟩
    refine jk7 (l:=l) (what:=what) (kn:=3) (ks:=1) (n:=((m+1+0:Nat):Int)) (.inr rfl) rfl rfl (by decide) hs.b hs.len (by omega) (by omega) ?_
    simp -implicitDefEqProofs only [go_sem,pg7,qb7,il7,rc7,ng7,wkM,wo7,ap7]
    exact⟨by omega,by omega,1,by omega,rfl,rfl,by omega⟩
   ·simp only[Nat.add_zero]at had1
    refine jk7 (l:=l) (what:=what) (kn:=3) (ks:=1) (n:=((m+1+0:Nat):Int)) (.inl rfl) rfl rfl (by decide) hs.b hs.len (by omega) (by omega) ?_
    simp -implicitDefEqProofs only [go_sem,pg7,qb7,il7,rc7,ng7,wkM,wo7,ap7]
    exact⟨by omega,by omega,by omega,(k+2,m+2),⟨by omega,by (try simp only[]);omega⟩,rfl,rfl,by simp only[];omega⟩
   ·have hx:=hxv (by omega)
    refine⟨by omega, ?_⟩
    refine jk7 (l:=l) (what:=what) (kn:=3) (ks:=1) (n:=((m+1+(j+1):Nat):Int)) (.inr rfl) rfl rfl (by decide) hs.b hs.len (by omega) (by omega) ?_
    simp -implicitDefEqProofs only [go_sem,pg7,qb7,il7,rc7,ng7,wkM,wo7,ap7]
    exact⟨by omega,by omega,by omega,j+2,by omega,rfl,rfl,by omega⟩
   ·refine jk7 (l:=l) (what:=what) (kn:=3) (ks:=1) (n:=((m+1+(j+1):Nat):Int)) (.inl rfl) rfl rfl (by decide) hs.b hs.len (by omega) (by omega) ?_
    simp -implicitDefEqProofs only [go_sem,pg7,qb7,il7,rc7,ng7,wkM,wo7,ap7]
    exact⟨by omega,by omega,(1,m+1+(j+1)+1),⟨by omega,by (try simp only[]);omega⟩,rfl,rfl,by simp only[];omega⟩
   ·have hx:=hxv (by omega)
    refine⟨by omega, ?_⟩
    refine jk7 (l:=l) (what:=what) (kn:=3) (ks:=1) (n:=((m+1+(j+1):Nat):Int)) (.inr rfl) rfl rfl (by decide) hs.b hs.len (by omega) (by omega) ?_
    simp -implicitDefEqProofs only [go_sem,pg7,qb7,il7,rc7,ng7,wkM,wo7,ap7]
    exact⟨by omega,by omega,by omega,j+2,by omega,rfl,rfl,by omega⟩
   ·refine jk7 (l:=l) (what:=what) (kn:=3) (ks:=1) (n:=((m+1+(j+1):Nat):Int)) (.inl rfl) rfl rfl (by decide) hs.b hs.len (by omega) (by omega) ?_
    simp -implicitDefEqProofs only [go_sem,pg7,qb7,il7,rc7,ng7,wkM,wo7,ap7]
    exact⟨by omega,by omega,by omega,(k+2,m+1+(j+1)+1),⟨by omega,by (try simp only[]);omega⟩,rfl,rfl,by simp only[];omega⟩
  ·obtain rfl:k=t.bikes.length:=by omega
   clear hm h hk
   generalize t.trucks.length=nT at htl ⊢
   generalize t.bikes.length=nB at hbl ⊢
   rcases nT with _ | nT <;> rcases nB with _ | nB
   all_goals
    simp -implicitDefEqProofs only [go_sem,arb7,csb7,lwb7,oyb7,qmb7,pg7,qb7,il7,rc7,ng7,wkM,Int.zero_tdiv,eq_self,wo7,ap7,u_S,hzc7,fyc7,eyc7,ixc7,rzc7,jxc7,azc7,u_c,u_a,u_f,wtc7,tlc7,loc7,qnc7,ewc7,u_h,yyc7,cyc7,vxc7,uyc7,xyc7,upK,upK.upKs,qpc7,vrc7,xrc7,qxc7,qbc7,msc7,hyc7,qzc7,cm7,mb7]
   all_goals
    try have htd:((nB+1:Nat):Int).tdiv 2=((nB+1:Nat):Int) / 2:=Int.tdiv_eq_ediv_of_nonneg (by omega)
    repeat' (first | exact nec7 (k:=200000) (by first | exact .inl rfl | exact .inr ⟨_,by omega,rfl⟩) (by first | exact .inl rfl | exact .inr ⟨_,by omega,rfl⟩) | exact nec7 (k:=200001) (by first | exact .inl rfl | exact .inr ⟨_,by omega,rfl⟩) (by first | exact .inl rfl | exact .inr ⟨_,by omega,rfl⟩) | exact And.intro (by omega) (by omega) | refine And.intro ?_ ?_ | intro _)
    all_goals omega
end Go.Proofs.YtedahhjopmkbbaaGreat.Ab
namespace Go.Proofs.YtedahhjopmkbbaaGreat
open Go.RowKit Go.WideShapes Go.ChangeShapes Go.ChangeAt
def tz7 (B:Nat) (out:List (List ba7)):Prop:=∀t∈out,∀u∈t,0≤u.sat∧u.sat<(B:Int)
theorem tz7.ready {B:Nat}{many room:Int}{q:Bool}{st:List (List ba7)×Int}(h:tz7 B st.1):tz7 B (readyQ many room q st).1:=by
 unfold readyQ
 split
 ·intro t ht
  rcases List.mem_append.1 ht with ht | ht
  ·exact h t ht
  ·obtain rfl:=List.mem_singleton.1 ht
   intro u hu;cases hu
 ·exact h
theorem tz7.add {B:Nat}{out:List (List ba7)}(h:tz7 B out) {s:ba7}(hs:0≤s.sat∧s.sat<(B:Int)):tz7 B (cb7 out s):=by
 intro t ht
 unfold cb7 at ht
 rcases List.mem_or_eq_of_mem_set ht with ht | rfl
 ·exact h t ht
 ·intro u hu
  rcases List.mem_append.1 hu with hu | hu
  ·by_cases hk:out.length-1<out.length
   ·rw[List.getD_eq_getElem?_getD,List.getElem?_eq_getElem hk]at hu
    exact h _ (List.getElem_mem hk) u hu
   ·rw[List.getD_eq_getElem?_getD,List.getElem?_eq_none (by omega)]at hu;cases hu
  ·obtain rfl:=List.mem_singleton.1 hu;exact hs
def thb7:Shape (List Int×Int) where
 sz:=2
 rep:=fun w F x cs=>∃v,cs=[v,.int .u8 x.2]∧(0≤x.2∧x.2≤255)∧(ia7 i8S).rep w F x.1 [v]
 len:=by rintro w F x cs ⟨_,rfl,_⟩;rfl
 keep:=by rintro w w' F x cs ⟨_,rfl,h1,h2⟩ ha;exact⟨_,rfl,h1,(ia7 i8S).keep h2 ha⟩
 weak:=by rintro w F G x cs ⟨_,rfl,h1,h2⟩ ha;exact⟨_,rfl,h1,(ia7 i8S).weak h2 ha⟩
 lt:=by rintro w F x cs ⟨_,rfl,h1,h2⟩;exact⟨_,rfl,h1,(ia7 i8S).lt h2⟩
theorem nac7:lm7 Tryz.prog 31 thb7:=by
 intro H enc w base spare held fuel cs x h
 have hl:cs.length=2:=(tp7 Tryz.underlying31 h).trans (by kernel_rfl)
 match cs,hl with
 | [v0,v1],_ =>
  obtain⟨_,_,f0⟩:=cd7 Tryz.underlying31 h 0 29 0 1 rfl (by kernel_rfl)
  obtain⟨_,_,f1⟩:=cd7 Tryz.underlying31 h 1 5 1 1 rfl (by kernel_rfl)
  obtain⟨a0,r0⟩:=pl7 (S:=i8S) Tryz.underlying29 (by kernel_rfl) jvc7 _ _ _ _ _ _ _ _ _ f0
  obtain⟨a1,r1⟩:=bq7 _ _ _ _ _ _ _ _ _ f1
  obtain⟨e,hw⟩:=r1
  obtain rfl:=(List.cons.inj e).1
  exact⟨⟨a0,a1⟩,v0,rfl,hw,r0⟩
section
variable {H:Type} {enc:TypeId×Value→H} {P:Program} {w:World} {base:Nat} {spare:Nat→Bool} {held:Bool}
end
namespace Ab
theorem fhc7 {x:ca7}{p:ua7}(h:mab7 x p):swc7 (fm7 x p):=by
 have hw:=fjc7 h
 refine⟨by rw[mub7];exact h.tl,by rw[ktb7];exact h.bl,fun l hl=>⟨?_,hw.1 l hl⟩,fun r hr=>⟨?_,hw.2 r hr⟩⟩
 ·obtain⟨k,hk,rfl⟩:=List.getElem_of_mem hl
  have hk2:k<p.trucks.length:=by rw[← mub7 x p];exact hk
  rw[chc7 x p hk2 hk]
  exact (h.t1 _ (List.getElem_mem hk2)).1
 ·obtain⟨k,hk,rfl⟩:=List.getElem_of_mem hr
  have hk2:k<p.bikes.length:=by rw[← ktb7 x p];exact hk
  rw[bjc7 x p hk2 hk]
  exact (h.b1 _ (List.getElem_mem hk2)).1
def dy7 (s:List Int×Int):List AV:=[eI8 s.1,.int .u8 s.2]
theorem xzc7:Fwd i8S (fun x _=>.int .i8 x):=by
 rintro w F x cs ⟨rfl,-⟩ j hj
 have hj:j<1:=hj
 obtain rfl:j=0:=by omega
 exact⟨_,rfl,rfl⟩
theorem akc7 {w:World}{F:Nat→Prop}{s:List Int×Int}{cs:List Value}(h:thb7.rep w F s cs):ge7 F w (dy7 s) cs:=by
 obtain⟨v,rfl,h1,h2⟩:=h
 exact⟨_,_,rfl,fs (e:=fun x _=>.int .i8 x) (0:Int) xzc7 h2,_,_,rfl,rfl,rfl⟩
theorem wgc7 {w:World}{F:Nat→Prop}{s:List Int×Int}{cs:List Value}(h:thb7.rep w F s cs):lgb7 s.1 s.2:=by
 obtain⟨v,rfl,h1,a,b,off,c,e1,g1,g2,g3,g4⟩:=h
 refine⟨fun u hu=>?_,Nat.le_trans g1 g2,h1⟩
 obtain⟨i,hi,rfl⟩:=List.getElem_of_mem hu
 obtain⟨es,⟨-,k1⟩,-⟩:=g4 i hi
 exact k1
theorem yzb7 {pu:Pu}{H:List Root}{x:ca7}{p:ua7}{s:List Int×Int}{args:List RV}{K:RV→List Root→Prop}(h:mab7 x p) (hs:lgb7 s.1 s.2) (ho:zsb7 H args) (he:wt7 H args=[.agg (mb7 (fm7 x p)),.agg (dy7 s)]) (hH:wl7 H args=H)
  (hK:∀t:nb7,cz7 t→t.trucks.length≤200000→t.bikes.length≤200000→K (.agg (mb7 t)) H):lb7 Tryz.prog pu 22 args H K :=
 wg7 (wfc7 (fhc7 h) hs) ho he hH (by
  rintro r ⟨t,rfl,h1,h2,h3,h4⟩
  exact hK t ⟨h1,h2⟩ h3 h4)
end Ab
end Go.Proofs.YtedahhjopmkbbaaGreat
namespace Go.Proofs.YtedahhjopmkbbaaGreat.Ab
open Go.RowKit Go.Lib
theorem srb7 (p:ua7) (at_:Nat) (by_:Int):zf7 p 0 at_ by_=p:=by
 unfold zf7
 split <;> rfl
theorem ssb7 {y:ca7}(h:YOk y) (wi:df7) :
  be7 Tryz.prog 19 [.agg (pd7 (fg7 y wi)),.c (.int .u8 0),.c (.int .u8 0),.c (.int .i8 0)] (fun r=>r = .agg (pd7 (fg7 y wi))) :=
 qj7 ⟨_,_,Tryz.func19,by kernel_rfl,rfl⟩ fun rho w vs hc=>by
  obtain⟨_,_,rfl,⟨cs,rfl,h1⟩,_,_,rfl,rfl,_,_,rfl,rfl,_,_,rfl,rfl,rfl⟩:=hc
  have hf:=vk7 wi h.ns h.nc h.ld h.troom
  refine (uyb7 (what:=0) (at_:=0) (by_:=0) (cpb7 h1 (bu7 h wi).wf) (by decide) rfl (by decide) (by decide) hf.tl (by have:=hf.bl;omega) hf.ts (fun b hb=>by have:=hf.bs b hb;exact⟨this.1,by omega,this.2.2⟩)).mono ?_
  rintro e w' ⟨tv,bv,ts,vs,rfl,hT,hB,hb⟩
  rw[srb7]at hT hB
  exact⟨_,_,rfl,rfl,rmb7 hT hB (bu7 h wi).wf,hb⟩
theorem gnc7 {s:jb7}{wi:df7}{m:List Int×Int}{cost:Int}(hs:SmallK s) (hw:vvb7 wi) (hm:lgb7 m.1 m.2) :
  be7 Tryz.prog 8 [.agg (fv7 s),.agg (cjb7 wi),.c (.int .u8 0),.c (.int .u8 0),.c (.int .i8 0),.agg (dy7 m),.c (I6 cost)] (fun r=>∃t:nb7,cz7 t∧r = .agg (ac7 ⟨fg7 (yj7 s) wi,t,cost⟩)):=by
 refine vc7 zb7 (by kernel_rfl) (fun n=>match n with | 5=>([0,1,3,2,4,5,6],1,none) | _=>([],0,none)) Tryz.func8 rfl (by kernel_rfl) Tryz.ntmps8 (congrArg Array.toList Tryz.results8) (by kernel_rfl) (by simp) ?_
 simp -implicitDefEqProofs only [go_sem,fv7,cjb7,dy7]
 refine wg7 (drc7 hs) (by simp -implicitDefEqProofs only [go_sem]) rfl rfl ?_
 rintro r rfl
 have hy:=smb7 hs
 generalize yj7 s=y at hy
 simp -implicitDefEqProofs only [go_sem,yh7]
 refine wg7 (vhc7 hy hw) (by simp -implicitDefEqProofs only [go_sem]) rfl rfl ?_
 rintro r rfl
 refine wg7 (ssb7 hy wi) (by simp -implicitDefEqProofs only [go_sem,pd7]) rfl rfl ?_
 rintro r rfl
 have hp:=bu7 hy wi
 generalize fg7 y wi=p at hp
 simp -implicitDefEqProofs only [go_sem,pd7]
 refine wg7 (tpc7 hy hp) (by simp -implicitDefEqProofs only [go_sem]) rfl rfl ?_
 rintro r rfl
 by_cases hc:fb7 y p=0
 ·have hsk:=dhc7 hy hc
  rw[hc]
  simp -implicitDefEqProofs only [go_sem]
  refine wg7 (uoc7 hsk) (by simp -implicitDefEqProofs only [go_sem]) rfl rfl ?_
  rintro r rfl
  simp -implicitDefEqProofs only [go_sem,mb7]
  refine yzb7 hsk hm (by simp -implicitDefEqProofs only [go_sem,dy7]) rfl rfl ?_
  intro t ht htl htb
  simp -implicitDefEqProofs only [go_sem,mb7]
  exact⟨.agg (ac7 ⟨p,t,cost⟩),⟨_,rfl,⟨_,_,rfl,.inl rfl,_,_,rfl,.inl rfl,_,_,rfl,.inl rfl,_,_,rfl,.inl rfl,_,_,rfl,.inl rfl,rfl⟩⟩,t,ht,rfl⟩
 ·simp -implicitDefEqProofs only [go_sem]
  refine⟨fun h=>absurd h hc,fun _=>?_⟩
  exact⟨.agg (ac7 ⟨p,⟨[],[]⟩,cost⟩),⟨_,rfl,⟨_,_,rfl,.inl rfl,_,_,rfl,.inl rfl,_,_,rfl,.inr (.inr ⟨_,_,rfl⟩),_,_,rfl,.inr (.inr ⟨_,_,rfl⟩),_,_,rfl,.inl rfl,rfl⟩⟩,⟨[],[]⟩,⟨(fun l hl=>by cases hl),(fun r hr=>by cases hr)⟩,rfl⟩
end Go.Proofs.YtedahhjopmkbbaaGreat.Ab
namespace Go.Proofs.YtedahhjopmkbbaaGreat.Ab
open Go.RowKit
instance (k:IntKind) (n:Int):Decidable (inK k n):=match k with
 | .i8=>inferInstanceAs (Decidable (_∧_))
 | .i16=>inferInstanceAs (Decidable (_∧_))
 | .i32=>inferInstanceAs (Decidable (_∧_))
 | .i64=>inferInstanceAs (Decidable (_∧_))
 | .u8=>inferInstanceAs (Decidable (_∧_))
 | .u16=>inferInstanceAs (Decidable (_∧_))
 | .u32=>inferInstanceAs (Decidable (_∧_))
 | .u64=>inferInstanceAs (Decidable (_∧_))
instance decNo:Decidable no.1:=isFalse id
instance (op:BinOp) (a b:Int):Decidable (hmc7 op a b).1:=by
 unfold hmc7;split <;> first | exact isTrue trivial | exact decNo
instance (op:BinOp) (k:IntKind) (a b:Int):Decidable (jc7 op k a b).1:=by
 unfold jc7;split <;> infer_instance
instance (op:BinOp) (a b:ByteArray):Decidable (ghc7 op a b).1:=by
 unfold ghc7;split <;> first | exact isTrue trivial | exact decNo | exact inferInstanceAs (Decidable (_≤_))
instance (s:ByteArray) (a b:Int):Decidable (lnc7 s a b).1:=inferInstanceAs (Decidable (_∧_))
instance (op:BinOp) (t:TyK) (x y:RV):Decidable (kzb7 op t x y).1:=by
 unfold kzb7
 split
 ·infer_instance
 ·split
  ·split <;> first | exact isTrue trivial | exact decNo
  ·exact decNo
 ·infer_instance
 ·exact decNo
instance (op:UnOp) (x:RV):Decidable (unV op x).1:=by
 unfold unV
 split
 ·split <;> first | exact isTrue trivial | exact decNo
 ·split <;> first | infer_instance | exact decNo
 ·exact decNo
instance (a b c:RV):Decidable (slb7 a b c).1:=by
 unfold slb7;split <;> first | exact isTrue trivial | exact decNo | infer_instance
instance (H:List Root) (id st len:Nat):Decidable (vld H id st len):=by
 unfold vld;split <;> infer_instance
instance (H:List Root) (id n:Nat):Decidable (arc7 H id n):=by
 unfold arc7;split <;> infer_instance
instance (H:List Root) (id st len:Nat):Decidable (wlb7 H id st len):=by
 unfold wlb7;split <;> infer_instance
instance (k:TyK) (H:List Root) (x:RV):Decidable (bkc7 k H x).1:=by
 unfold bkc7;repeat' split
 all_goals first | exact decNo | exact isTrue trivial | infer_instance
instance (k:TyK) (H:List Root) (x:RV) (f:Nat):Decidable (cw7 k H x f).1:=by
 unfold cw7;repeat' split
 all_goals first | exact decNo | exact isTrue trivial | infer_instance
instance (ty:Ty) (k:TyK) (H:List Root) (x y:RV):Decidable (jx7 ty k H x y).1:=by
 unfold jx7;repeat' split
 all_goals first | exact decNo | exact isTrue trivial | infer_instance
instance (c:Option CK):Decidable (wpc7 c).1:=by
 unfold wpc7;split <;> first | exact decNo | exact isTrue trivial
instance (e:TyE) (H:List Root) (x:RV):Decidable (sx7 e H x).1:=by
 unfold sx7;repeat' split
 all_goals first | exact decNo | exact isTrue trivial | infer_instance
instance decNth:∀(l:List RV) (i:Nat),Decidable (skc7 l i).1
 | [],_=>decNo
 | _::_,0=>isTrue trivial
 | _::l,i+1=>decNth l i
instance (x:RV) (i:Nat):Decidable (qkc7 x i).1:=by
 unfold qkc7;repeat' split
 all_goals first | exact decNo | exact isTrue trivial | infer_instance
instance (s k:TyK) (x:RV):Decidable (plb7 s k x).1:=by
 unfold plb7;repeat' split
 all_goals first | exact decNo | exact isTrue trivial | infer_instance
instance (b:Bool) (x y:RV):Decidable (mmV b x y).1:=by
 unfold mmV;repeat' split
 all_goals first | exact decNo | exact isTrue trivial | infer_instance
instance (k:TyK) (x y:RV):Decidable (ucc7 k x y).1:=by
 unfold ucc7;repeat' split
 all_goals first | exact decNo | exact isTrue trivial | infer_instance
instance (H:List Root) (x:RV):Decidable (ulc7 H x).1:=by
 unfold ulc7;repeat' split
 all_goals first | exact decNo | exact isTrue trivial | infer_instance
instance (k:TyK) (x y:RV):Decidable (ajc7 k x y).1:=by
 unfold ajc7;repeat' split
 all_goals first | exact decNo | exact isTrue trivial | infer_instance
instance (ty:Ty) (k:TyK) (x y:RV):Decidable (jgc7 ty k x y).1:=by
 unfold jgc7;repeat' split
 all_goals first | exact decNo | exact isTrue trivial | infer_instance
instance (k:TyK) (x y z:RV):Decidable (ugc7 k x y z).1:=by
 unfold ugc7;repeat' split
 all_goals first | exact decNo | exact isTrue trivial | infer_instance
instance (ty:Ty) (k:TyK) (rd:Operand→Bool×RV) (x:RV) (a b c:Option Operand):Decidable (iqc7 ty k rd x a b c).1:=by
 unfold iqc7;repeat' split
 all_goals first | exact decNo | exact isTrue trivial | infer_instance
instance decG (g:Bool):∀l:List Bool,Decidable (gOk g l)
 | []=>isTrue trivial
 | h::l => @instDecidableAnd _ _ (inferInstance) (decG g l)
instance decBd (pl:Nat→Nat×Nat) (rd:Operand→Bool×RV):∀(l:List AV) (ps:List (Nat×Operand)),Decidable (bf7 pl rd l ps).1
 | l,[]=>isTrue trivial
 | l,(i,x)::ps => @instDecidableAnd _ _ (inferInstance) (decBd pl rd _ ps)
instance (fn:Fn) (a:List Operand) (l:List RV):Decidable (xnc7 fn a l).1:=by
 unfold xnc7;repeat' split
 ·unfold bsc7;split <;> first | exact decNo | exact isTrue trivial
 ·exact decNo
instance (ty:Ty) (H:List Root) (b:Builtin) (ts:List TypeId) (l:List RV):Decidable (zpc7 ty H b ts l).1:=by
 unfold zpc7;repeat' split
 all_goals first | exact decNo | exact isTrue trivial | infer_instance
instance (ty:Ty) (g:Bool) (rd:Operand→Bool×RV) (H:List Root) (o:Op):Decidable (opV ty g rd H o).1:=by
 unfold opV;repeat' split
 all_goals first | exact decNo | exact isTrue trivial | infer_instance
example:decide (kzb7 .add .b (.c (.int .i64 3)) (.c (.int .i64 4))).1=true:=by decide +kernel
example:(match (if (kzb7 .add .b (.c (.int .i64 3)) (.c (.int .i64 4))).1 then (kzb7 .add .b (.c (.int .i64 3)) (.c (.int .i64 4))).2 else .c .junk) with | .c (.int _ n)=>n==7 | _=>false)=true:=by decide +kernel
def frB:List AV→Bool
 | []=>true
 | a::l=>a.fr&&frB l
theorem nwb7 {H:List Root}:∀{l:List AV},frB l=true→if7 H l∧frzH H l=H∧hr7 H l=l
 | [],_=>⟨trivial,rfl,rfl⟩
 | a::l,h=>by
  simp only[frB,Bool.and_eq_true]at h
  obtain⟨h1,h2⟩:=h
  obtain⟨g1,g2,g3⟩:=nwb7 (H:=H) h2
  cases a <;> first | (cases h1;done) | exact⟨g1,g2,by simp only[hr7,frz,g3]⟩
instance (k:TyK):Decidable (kN k):=by unfold kN;split <;> first | exact isTrue trivial | exact isFalse id
instance (sz:Nat) (r:Row) (i o:Nat) (cs:List AV):Decidable (r.put sz i o cs).1:=by
 unfold Row.put;split <;> first | exact isTrue trivial | exact isFalse id | infer_instance
def voc7 (e:TyE) (H:List Root) (p v:RV) (K:List Root→Bool):Bool :=
 match p with
 | .c (.ptr id n i o)=>match aa7 H id with
  | .live fz t sz r=>(!fz&&decide ((ob7 v).length=e.sz∧r.len=n∧i<n∧o+e.sz≤sz∧0<e.sz∧kN e.k)) &&
   (if r.isBox then njL (ob7 v)&&K (da7 H id (.live false t sz (r.put sz i o (ob7 v)).2))
   else frB (ob7 v)&&(decide (r.put sz i o (ob7 v)).1&&K (da7 H id (.live false t sz (r.put sz i o (ob7 v)).2))))
  | .dead=>false
 | _=>false
theorem iic7 {e:TyE}{H:List Root}{p v:RV}{K:List Root→Bool}(h:voc7 e H p v K=true):tkc7 e H p v (fun H=>K H=true):=by
 unfold voc7 at h
 split at h
 ·rename_i id n i o
  split at h
  ·rename_i fz t sz r hr
   simp only[Bool.and_eq_true,Bool.not_eq_true',decide_eq_true_eq]at h
   obtain⟨⟨hf,hc⟩,h⟩:=h
   unfold tkc7
   simp only
   unfold rnb7
   simp only[hr]
   refine⟨hf,hc, ?_⟩
   split at h
   ·rename_i hb
    rw[if_pos hb]
    simpa[Bool.and_eq_true]using h
   ·rename_i hb
    rw[if_neg hb]
    simp only[Bool.and_eq_true,decide_eq_true_eq]at h
    obtain⟨h1,h2,h3⟩:=h
    obtain⟨g1,g2,g3⟩:=nwb7 (H:=H) h1
    rw[g2,g3]
    exact⟨g1,by rw[hr,hf],h2,h3⟩
  ·cases h
 ·cases h
instance (k:TyK) (els:List (List AV)):Decidable (sm7 k els).1:=by
 unfold sm7;repeat' split
 all_goals first | exact isTrue trivial | exact isFalse id
def slc7 (ty:Ty) (e:TypeId) (H:List Root) (n:Nat) (ok:Bool) (l:List AV) (K:RV→List Root→Bool):Bool :=
 match (ty e).wk with
 | some []=>ok&&(njL l&&(decide (0<(ty e).sz∧n*(ty e).sz≤16777216)&&K (.c (.h H.length 0 n)) (H++[.live false e (ty e).sz (.own (chunk (ty e).sz n l))])))
 | none=>ok&&(frB l&&(decide (sm7 (ty e).k (chunk (ty e).sz n l)).1&&(decide (0<(ty e).sz∧n*(ty e).sz≤16777216)&&K (.c (.h H.length 0 n)) (H++[.live false e (ty e).sz (sm7 (ty e).k (chunk (ty e).sz n l)).2]))))
 | _=>false
theorem dic7 {ty:Ty}{e:TypeId}{H:List Root}{n:Nat}{q:Prop×List AV}[Decidable q.1] {K:RV→List Root→Bool}(h:slc7 ty e H n (decide q.1) q.2 K=true) :
  ((ty e).wk=none∧okc7 ty e H n q (fun r H=>K r H=true))∨((ty e).wk=some []∧smc7 ty e H n q (fun r H=>K r H=true)):=by
 unfold slc7 at h
 split at h
 ·rename_i hw
  simp only[Bool.and_eq_true,decide_eq_true_eq]at h
  exact .inr ⟨hw,h⟩
 ·rename_i hw
  simp only[Bool.and_eq_true,decide_eq_true_eq]at h
  obtain⟨h1,h2,h3,h4,h5⟩:=h
  obtain⟨g1,g2,g3⟩:=nwb7 (H:=H) h2
  refine .inl ⟨hw, ?_⟩
  unfold okc7
  rw[g2,g3]
  exact⟨h1,g1,h3,h4,h5⟩
 ·cases h
instance decFrz (H:List Root):∀l:List AV,Decidable (if7 H l)
 | []=>isTrue trivial
 | .h id st len::l => @instDecidableAnd _ _ inferInstance (decFrz H l)
 | .ptr .. :: _=>isFalse id
 | .junk::_=>isFalse id
 | .ws .. :: _=>isFalse id
 | .wu .. :: _=>isFalse id
 | .wp .. :: _=>isFalse id
 | .int .. :: l=>decFrz H l
 | .bool .. :: l=>decFrz H l
 | .flt .. :: l=>decFrz H l
 | .str .. :: l=>decFrz H l
 | .nilp::l=>decFrz H l
 | .nils::l=>decFrz H l
 | .sl .. :: l=>decFrz H l
 | .rp .. :: l=>decFrz H l
def ioc7 (k:TyK) (z:List AV):Bool :=
 match k with
 | .i k=>match z with
  | [.int k' n]=>decide (k=k')&&decide (n=0)
  | _=>false
 | .b=>match z with
  | [.bool b] => !b
  | _=>false
 | .no=>false
 | .str=>decide (if7 [] z)
 | .sc=>decide (if7 [] z)
 | .st _=>decide (if7 [] z)
 | .ar .. => decide (if7 [] z)
 | .sl _=>decide (if7 [] z)
theorem evb7 {k:TyK}{z:List AV}(h:ioc7 k z=true):zOk k z:=by
 cases k with
 | i k =>
  simp only[ioc7]at h
  split at h
  ·simp only[Bool.and_eq_true,decide_eq_true_eq]at h;obtain⟨rfl,rfl⟩:=h;rfl
  ·cases h
 | b =>
  simp only[ioc7]at h
  split at h
  ·simp only[Bool.not_eq_true']at h;subst h;rfl
  ·cases h
 | no=>cases h
 | _=>exact of_decide_eq_true (p:=if7 [] z) h
def jvb7 (ty:Ty) (k:TyK) (H:List Root) (n c:RV) (K:RV→List Root→Bool):Bool :=
 match k with
 | .sl e=>match n,c with
  | .c (.int _ n),.c (.int _ c)=>(decide (0≤n∧n≤1099511627776∧c=n∧0<(ty e).sz∧(ty e).bytes≤128)&&ioc7 (ty e).k (ty e).zero)&&K (.c (.h H.length 0 n.toNat)) (H++[.live false e (ty e).sz (yi7 (ty e).wk (ty e).k (ty e).zero n.toNat)])
  | _,_=>false
 | _=>false
theorem iac7 {ty:Ty}{k:TyK}{H:List Root}{n c:RV}{K:RV→List Root→Bool}(h:jvb7 ty k H n c K=true):kyb7 ty k H n c (fun r H=>K r H=true):=by
 unfold jvb7 at h
 split at h
 ·split at h
  ·simp only[Bool.and_eq_true,decide_eq_true_eq]at h
   obtain⟨⟨⟨h1,h2,h3,h4,h5⟩,h6⟩,h7⟩:=h
   exact⟨⟨h1,h2,h3,h4,h5,evb7 h6⟩,h7⟩
  ·cases h
 ·cases h
instance (H:List Root) (x:RV):Decidable (dc7 H x).1:=by
 unfold dc7;repeat' split
 all_goals first | exact isFalse id | infer_instance
instance (r s:Row):Decidable (r.app s).1:=by
 unfold Row.app;split <;> first | exact isTrue trivial | exact isFalse id | infer_instance
def foc7 (ty:Ty) (k:TyK) (H:List Root) (s x:RV) (K:RV→List Root→Bool):Bool :=
 match k with
 | .sl e=>(match (ty e).wk with
   | none=>true
   | some []=>true
   | _=>false)&&(decide ((dc7 H x).1∧(dc7 H x).2.2=(ty e).sz∧0<(ty e).sz∧(ty e).bytes≤128) &&
  match s with
  | .c .nils=>decide (0<(dc7 H x).2.1.len∧(dc7 H x).2.1.len≤1099511627776)&&K (.c (.h H.length 0 (dc7 H x).2.1.len)) (H++[.live false e (ty e).sz (dc7 H x).2.1])
  | .c (.h id st len)=>match aa7 H id with
   | .live fz t sz r=>decide (fz=false∧st=0∧len=r.len∧t=e∧sz=(ty e).sz∧len+(dc7 H x).2.1.len≤1099511627776)&&(decide (r.app (dc7 H x).2.1).1&&K (.c (.h id 0 (len+(dc7 H x).2.1.len))) (da7 H id (.live false t sz (r.app (dc7 H x).2.1).2)))
   | .dead=>false
  | _=>false)
 | _=>false
theorem ohc7 {ty:Ty}{k:TyK}{H:List Root}{s x:RV}{K:RV→List Root→Bool}(h:foc7 ty k H s x K=true):ecc7 ty k H s x (fun r H=>K r H=true):=by
 unfold foc7 at h
 split at h
 ·rename_i e
  simp only[Bool.and_eq_true,decide_eq_true_eq]at h
  obtain⟨hw,⟨h1,h2,h3,h4⟩,h⟩:=h
  have hv:wqb7 ty (.sl e) H s x (fun r H=>K r H=true):=by
   unfold wqb7
   refine⟨h1,h2,h3,h4, ?_⟩
   split at h
   ·simpa[Bool.and_eq_true]using h
   ·split at h
    ·rename_i hr
     simp only[hr]
     simpa[Bool.and_eq_true]using h
    ·cases h
   ·cases h
  unfold ecc7
  simp only
  split
  ·exact hv
  ·exact hv
  ·rename_i hk;rw[hk]at hw;cases hw
 ·cases h
abbrev co7:=Pu→FuncId→List RV→List Root→(RV→List Root→Bool)→Bool
section
variable (ty:Ty) (call:co7)
def dyb7 (pu:Pu) (tm:Tm) (rd:Operand→Bool×RV) (H:List Root) (o:Oper) (K:AS→Bool):Bool :=
 match o.op with
 | .box t x=>decide ((ob7 (rd x).2).length=(ty t).sz∧0<(ty t).sz∧njL (ob7 (rd x).2)=true)&&K ⟨uf7 tm true o.dst (.c (.ptr H.length 1 0 0)),H++[.live false t (ty t).sz (.box (ob7 (rd x).2))]⟩
 | .alloc t=>decide (0<(ty t).sz∧kN (ty t).k)&&K ⟨uf7 tm true o.dst (.c (.ptr H.length 1 0 0)),H++[.live false t (ty t).sz (.box (ty t).zero)]⟩
 | .store t p v=>pu.isNone&&voc7 (ty t) H (rd p).2 (rd v).2 (fun H=>K ⟨uf7 tm true o.dst (.c .junk),H⟩)
 | .buildSlice t n ps=>match (ty t).k with
  | .sl e=>slc7 ty e H n (decide (bf7 (fun i=>(i*(ty e).sz,(ty e).sz)) rd (rep (ty e).zero n) ps.toList).1) (bf7 (fun i=>(i*(ty e).sz,(ty e).sz)) rd (rep (ty e).zero n) ps.toList).2 (fun r H=>K ⟨uf7 tm true o.dst r,H⟩)
  | _=>false
 | .makeSlice t n c=>jvb7 ty (ty t).k H (rd n).2 (rd c).2 (fun r H=>K ⟨uf7 tm true o.dst r,H⟩)
 | .call c=>match c.callee with
  | .builtin .append=>match c.args.toList with
   | [s,x]=>pu.isNone&&(decide (c.argTypes.toList=[c.argTypes.getD 0 0,c.argTypes.getD 0 0])&&foc7 ty (ty (c.argTypes.getD 0 0)).k H (rd s).2 (rd x).2 (fun r H=>K ⟨uf7 tm true o.dst r,H⟩))
   | _=>false
  | .value f=>match (rd f).2 with
   | .fn f caps=>call pu f (rds rd c.args.toList++caps.map .c) H (fun r H=>K ⟨uf7 tm true o.dst r,H⟩)
   | _=>false
  | _=>false
 | _=>false
end
section
variable {P:Program} {ty:Ty} {call:co7} {pu:Pu} {tm:Tm} {rd:Operand→Bool×RV} {H:List Root} {o:Oper} {K:AS→Bool}
theorem gjc7 (hcall:∀pu f args H K,call pu f args H K=true→lb7 P pu f args H (fun r H=>K r H=true)) (h:dyb7 ty call pu tm rd H o K=true):eff P ty pu tm rd H o (fun σ=>K σ=true):=by
 have hpu:pu.isNone=true→pu=none:=fun h=>by cases pu <;> first | rfl | cases h
 obtain⟨d,op,ot,po,af,gd⟩:=o
 cases op with
 | box t x =>
  dsimp only [dyb7]at h
  simp only[Bool.and_eq_true,decide_eq_true_eq]at h
  exact h
 | alloc t =>
  dsimp only [dyb7]at h
  simp only[Bool.and_eq_true,decide_eq_true_eq]at h
  exact h
 | store t p v =>
  dsimp only [dyb7]at h
  simp only[Bool.and_eq_true]at h
  obtain⟨h1,h2⟩:=h
  cases hpu h1
  exact⟨trivial,iic7 h2⟩
 | buildSlice t n ps =>
  dsimp only [dyb7]at h
  dsimp only [eff]
  split at h
  ·rename_i hk
   simp only[hk]
   rcases dic7 h with ⟨hw,h⟩ | ⟨hw,h⟩
   ·simp only[hw];exact h
   ·simp only[hw];exact h
  ·cases h
 | makeSlice t n c =>
  dsimp only [dyb7]at h
  exact iac7 h
 | call c =>
  dsimp only [dyb7]at h
  dsimp only [eff]
  split at h
  ·rename_i hc
   split at h
   ·rename_i hargs
    simp only[Bool.and_eq_true,decide_eq_true_eq]at h
    obtain⟨h1,h2,h3⟩:=h
    cases hpu h1
    simp only[hc,hargs]
    exact⟨trivial,qlc7 h2 (ohc7 h3)⟩
   ·cases h
  ·rename_i hc
   split at h
   ·rename_i hf
    simp only[hc,hf]
    exact hcall _ _ _ _ _ h
   ·cases h
  ·cases h
 | _=>cases h
end
section
variable (ty:Ty) (call:co7)
def opB (pu:Pu) (ops:Array Oper) (σ:AS) (o:Oper) (K:AS→Bool):Bool :=
 match guardOf σ.tm ops o.guard with
 | none=>false
 | some g=>decide (gOk g (vy7 σ.rd o.op)) &&
  (if isV o.op then (!g || decide (opV ty g σ.rd σ.H o.op).1)&&K ⟨uf7 σ.tm g o.dst (opV ty g σ.rd σ.H o.op).2,σ.H⟩
  else if g then dyb7 ty call pu σ.tm σ.rd σ.H o K else K ⟨uf7 σ.tm g o.dst (.c .junk),σ.H⟩)
end
section
variable {P:Program} {ty:Ty} {call:co7} {pu:Pu} {ops:Array Oper}
theorem ifb7 (hcall:∀pu f args H K,call pu f args H K=true→lb7 P pu f args H (fun r H=>K r H=true)) {σ:AS}{o:Oper}{K:AS→Bool}(h:opB ty call pu ops σ o K=true):ip7 P ty pu none ops σ o (fun σ=>K σ=true):=by
 unfold opB at h
 unfold ip7
 split at h
 ·cases h
 ·rename_i g hg
  simp only[Bool.and_eq_true,decide_eq_true_eq]at h
  obtain⟨h1,h2⟩:=h
  split at h2
  ·rename_i hv
   rw[if_pos hv]
   unfold peb7
   simp only[hg]
   simp only[Bool.and_eq_true,Bool.or_eq_true,Bool.not_eq_true',decide_eq_true_eq]at h2
   exact⟨h1,trivial,fun e=>by rcases h2.1 with q | q <;> simp_all,h2.2⟩
  ·rename_i hv
   rw[if_neg hv]
   refine⟨trivial, ?_⟩
   unfold ypc7
   simp only[hg]
   refine⟨h1,fun e=>?_,fun e=>?_⟩
   ·subst e;exact gjc7 hcall h2
   ·subst e;exact h2
theorem rqb7 {f:FuncId}{args:List RV}{H:List Root}{K K':RV→List Root→Prop}(hK:∀r H,K r H→K' r H) (h:lb7 P pu f args H K):lb7 P pu f args H K' :=
 ⟨h.1,fun E M w vs hr hc=>(h.2 E M w vs hr hc).mono fun e w' hh=>hh.imp (fun ⟨M',H',r,v,e1,e2,e3,e4,e5,e6,e7⟩=>⟨M',H',r,v,e1,e2,e3,e4,e5,e6,hK _ _ e7⟩) id⟩
end
end Go.Proofs.YtedahhjopmkbbaaGreat.Ab
