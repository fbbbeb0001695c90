/- Texts of the proof, joined: SoonM, Pc2, Same18, GlC, LawK, MoreK, MovedF, Up, Moved, MvLaw, StrM, StrN, Tells. -/
import Derived.Laws.IdiomCopy
import Derived.Test.YtabadfkikdefeaaGreatCan
set_option linter.all false
set_option maxRecDepth 100000
set_option maxHeartbeats 6400000
namespace Go.Proofs.YtabadfkikdefeaaGreat.Ab
open Go.RowKit
def tsH (id:Nat):List (List Int)→AV
 | []=>.nils
 | l=>.h id 0 l.length
theorem ll7 {n:Nat}{ids:List Nat}(h:5<n) (l:List (List Int)):ay7 n ids (tsH 5 l)=tsH 5 l:=by
 cases l with
 | nil=>rfl
 | cons a l=>simp[tsH,ay7,smb7,h,mkH]
def fpb7:List Int→AV
 | []=>.nils
 | l=>ye7 l
def tsR:List (List Int)→Root
 | []=>.dead
 | l=>.live false 78 1 (.gen (l.map fun r=>[fpb7 r]))
def igc7 (x:ba7) (p:sa7) (ts:List (List Int)) (ready:List Int):List Root :=
 [.live false 57 9 (.box (ni7 x)),.live false 37 2 (.box (ee7 p)),.live false 41 2 (.box [.nils,.nils]),.live false 41 2 (.box [tsH 5 ts,.nils]),.live false 2 1 (.ints .i64 ready),tsR ts]
def lH (id:Nat):List Int→AV
 | []=>.nils
 | l=>.h id 0 l.length
def lR:List Int→Root
 | []=>.dead
 | l=>.live false 2 1 (.ints .i64 l)
theorem hm7 {n:Nat}{ids:List Nat}(l:List (List Int)):xf7 n ids (tsR l)=tsR l:=by
 cases l <;> rfl
def headL (x:ba7) (p:sa7) (ts:List (List Int)) (t:List ea7) (ready l:List Int):List Root :=
 [.live false 57 9 (.box (ni7 x)),.live false 37 2 (.box (ee7 p)),.live false 41 2 (.box [.nils,.nils]),.live false 41 2 (.box [tsH 5 ts,.nils]),.live false 2 1 (.ints .i64 ready),tsR ts,.live false 124 1 (.box [wt7 t]),lR l]
def bsH (id:Nat):List dd7→AV
 | []=>.nils
 | l=>.h id 0 l.length
def bsR:List dd7→Root
 | []=>.dead
 | l=>.live false 136 3 (.gen (l.map fun r=>[I6 r.out,fpb7 r.starts,I6 r.back]))
def xl7 (x:ba7) (p:sa7) (ts:List (List Int)) (ready:List Int) (rs:List dd7):List Root :=
 [.live false 57 9 (.box (ni7 x)),.live false 37 2 (.box (ee7 p)),.live false 41 2 (.box [.nils,.nils]),.live false 41 2 (.box [tsH 5 ts,bsH 6 rs]),.live false 2 1 (.ints .i64 ready),tsR ts,bsR rs]
def dmb7 (x:ba7) (p:sa7) (ts:List (List Int)) (ready:List Int) (rs:List dd7) (b:ra7) (out:Int) (l:List Int):List Root :=
 xl7 x p ts ready rs++[.live false 70 2 (.box [I6 b.sat,ye7 b.stops]),.live false 136 3 (.box [I6 out,lH 9 l,I6 0]),lR l]
def upN (x:ba7) (A:SnA) (t:List ea7) (j:Nat):SnT:=(t.take j).foldl (ac7 x) ⟨0,0,A.ready,[]⟩
theorem yob7 (l:List Int):Eqv (fpb7 l) (ye7 l):=by
 cases l with
 | nil=>exact .inr ⟨1,_,rfl⟩
 | cons v l=>exact⟨_,rfl,fun i _ j _=>rfl⟩
theorem hxb7 (l:List (List Int)):Eqv (.sl l.length 1 fun i j=>nth ((l.map fun r=>[fpb7 r]).getD i []) j) (.sl l.length 1 fun i _=>ye7 (l.getD i [])) :=
 ⟨_,rfl,fun i hi j hj=>by
  obtain rfl:j=0:=by omega
  dsimp only
  rw[ki7 (by simpa using hi),ki7 hi,List.getElem_map]
  exact yob7 _⟩
theorem kwb7 (l:List dd7):Eqv (.sl l.length 3 fun i j=>nth ((l.map fun r=>[I6 r.out,fpb7 r.starts,I6 r.back]).getD i []) j) (.sl l.length 3 fun i=>ix3 (I6 (l.getD i ⟨0,[],0⟩).out) (ye7 (l.getD i ⟨0,[],0⟩).starts) (I6 (l.getD i ⟨0,[],0⟩).back)) :=
 ⟨_,rfl,fun i hi j hj=>by
  dsimp only
  rw[ki7 (by simpa using hi),ki7 hi,List.getElem_map]
  match j,hj with
  | 0,_=>exact rfl
  | 1,_=>exact yob7 _
  | 2,_=>exact rfl⟩
def bkN (x:ba7) (ready:List Int) (b:ra7) (j:Nat):SnB:=(b.stops.take j).foldl (bc7 x) ⟨ready.getD b.sat.toNat 0,1+b.sat,[]⟩
theorem rfc7 {x:ba7}{p:sa7}(ok:zy7 x p):PCall Tryz.prog 23 [.agg (ni7 x),.agg (ee7 p)] (fun r=>r = .agg (zb7 (ab7 x p))):=by
 have gd:=ok.good
 have hs1:=gd.sats;have hc1:=gd.custs;have hf1:=gd.fin;have htl:=ok.tl;have hbl:=ok.bl
 have hndx:nodes x=1+x.sats.length+x.custs.length:=rfl
 refine vg7 ko7 (by kernel_rfl) (fun n=>match n with | 13=>([],1,none) | 25=>([0,1,2,3,4,5,6,7,12,13,14,15,16,17,8,9,10,11,18,19],0,none) | 29=>([],1,none) | _=>([],0,none)) Tryz.func23 rfl (by kernel_rfl) Tryz.ntmps23 (congrArg Array.toList Tryz.results23) (by kernel_rfl) (by simp) ?_
 simp -implicitDefEqProofs only [go_sem,ni7,ee7]
 refine⟨by omega, ?_⟩
 refine fr7 (ι:=Nat) 1 [2,3,4,5,6,26,27] [28] (fun k=>k≤p.trucks.length) (fun k=>[.c (I6 k)]) (fun k=>igc7 x p (lb7 x (p.trucks.take k)).ts (lb7 x (p.trucks.take k)).ready) (fun k=>p.trucks.length-k) (by kernel_rfl) ⟨0,Nat.zero_le _,rfl,rfl⟩ (fun k _=>rfl) ?_
 intro k hk
 simp -implicitDefEqProofs only [go_sem,igc7,ni7,ee7]
 refine⟨fun h=>?_,fun h=>?_⟩
 ·have hlt:k<p.trucks.length:=by omega
  have hst:=ok.t1 _ (fh7 hlt [])
  obtain⟨hab,hts⟩:=ak7 ok k hk
  have hst1:(ef7 p k).length≤100000:=hst.1
  have hst2:∀j,j<(ef7 p k).length→0≤(stN (ef7 p k) j).sat∧(stN (ef7 p k) j).sat<x.sats.length:=fun j hj=>hst.2 _ (fh7 hj _)
  generalize hA:lb7 x (p.trucks.take k)=A at hab hts
  obtain⟨rdy0,ts⟩:=A
  simp only[]at hts
  refine⟨by omega, ?_⟩
  refine fr7 (ι:=Nat) 1 [2,3,4,5,6,26,27,28,33,34] [9,10,11,35] (fun j=>j≤(ef7 p k).length) (fun j=>[.c (I6 (upN x ⟨rdy0,ts⟩ (ef7 p k) j).now),.c (I6 (upN x ⟨rdy0,ts⟩ (ef7 p k) j).node),.c (lH 7 (upN x ⟨rdy0,ts⟩ (ef7 p k) j).l),.c (I6 j)]) (fun j=>headL x p ts (ef7 p k) (upN x ⟨rdy0,ts⟩ (ef7 p k) j).ready (upN x ⟨rdy0,ts⟩ (ef7 p k) j).l) (fun j=>(ef7 p k).length-j) (by kernel_rfl) ⟨0,Nat.zero_le _,rfl,rfl⟩ (fun k _=>rfl) ?_
  intro j hj
  have hup:upN x ⟨rdy0,ts⟩ (ef7 p k) (j+1)=if h:j<(ef7 p k).length then ac7 x (upN x ⟨rdy0,ts⟩ (ef7 p k) j) (stN (ef7 p k) j) else upN x ⟨rdy0,ts⟩ (ef7 p k) j:=by
   unfold upN
   split
   ·rename_i h
    rw[List.take_succ_eq_append_getElem h,List.foldl_append]
    show ac7 x _ _=ac7 x _ _
    unfold stN
    rw[ki7 h]
   ·rename_i h
    rw[List.take_of_length_le (by omega),List.take_of_length_le (by omega)]
  obtain⟨hbd,hln⟩:=wp7 gd (t:=ef7 p k) (sgc7.start x ⟨rdy0,ts⟩ hab) rfl ⟨hst.1,hst.2⟩ j hj
  have hbd:jtb7 x (upN x ⟨rdy0,ts⟩ (ef7 p k) j):=hbd
  have hln:(upN x ⟨rdy0,ts⟩ (ef7 p k) j).l.length=j:=hln
  generalize hsu:upN x ⟨rdy0,ts⟩ (ef7 p k) j=st at hup hbd hln
  obtain⟨now,node,ready,l⟩:=st
  have hrl:ready.length=x.sats.length:=hbd.len
  have hln:l.length=j:=hln
  have hend:j=(ef7 p k).length→lb7 x (p.trucks.take (k+1))=⟨ready,ts++[l]⟩:=fun e=>by
   subst e
   have h1:dj7 x ⟨rdy0,ts⟩ (ef7 p k)=⟨now,node,ready,l⟩:=by rw[← hsu];unfold upN dj7;rw[List.take_length]
   have h2:lb7 x (p.trucks.take (k+1))=xd7 x (lb7 x (p.trucks.take k)) (ef7 p k):=by
    unfold lb7 ef7
    rw[List.take_succ_eq_append_getElem hlt,List.foldl_append,ki7 hlt];rfl
   rw[h2,hA];unfold xd7;rw[h1]
  have hs:=fun h=>hst2 j h
  have hn:=hbd.now;have hnd:=hbd.node;have tb:=dc7 gd node (1+(stN (ef7 p k) j).sat);have hb:=bs7 gd (stN (ef7 p k) j).sat;have tb0:=dc7 gd node 0
  have hjl1:l.length≤100000:=by omega
  clear hsu
  rcases l with _ | ⟨v,l⟩ <;> rcases ts with _ | ⟨a,ts⟩
  all_goals
   simp -implicitDefEqProofs only [go_sem,headL,ni7,ee7,lH,lR,tsH,tsR]
   refine⟨fun h2=>?_,fun h2=>?_⟩
  ·have hjl:j<(ef7 p k).length:=by omega
   rw[dif_pos hjl]at hup
   have hs:=hs hjl
   simp only[List.length_nil]at hn hnd
   refine⟨by omega,hnd,by omega,by omega,by omega,by omega,⟨by omega,by omega⟩,by omega,by omega,by omega,⟨by omega,by omega⟩,by omega,by omega,j+1,[10],by omega,⟨rfl,rfl⟩, ?_, ?_,by omega⟩
   ·rw[hup];rfl
   ·rw[hup];rfl
  ·have hend:=hend (by omega)
   refine⟨by omega,k+1,[9],by omega,⟨rfl,rfl⟩,rfl, ?_,by omega⟩
   rw[hend];rfl
  ·have hjl:j<(ef7 p k).length:=by omega
   rw[dif_pos hjl]at hup
   have hs:=hs hjl
   simp only[List.length_nil]at hn hnd
   refine⟨by omega,hnd,by omega,by omega,by omega,by omega,⟨by omega,by omega⟩,by omega,by omega,by omega,⟨by omega,by omega⟩,by omega,by omega,j+1,[10],by omega,⟨rfl,rfl⟩, ?_, ?_,by omega⟩
   ·rw[hup];rfl
   ·rw[hup];rfl
  ·have hend:=hend (by omega)
   simp only[List.length_cons]at hts
   refine⟨⟨by simp,by omega⟩,by omega,k+1,[5],by omega,⟨rfl,rfl⟩,rfl, ?_,by omega⟩
   rw[hend];simp[os7,da7,xf7,ar7,pos,mkH,fpb7]
  ·have hjl:j<(ef7 p k).length:=by omega
   rw[dif_pos hjl]at hup
   have hs:=hs hjl
   simp only[List.length_cons]at hn hnd hln hjl1
   refine⟨by omega,hnd,by omega,by omega,by omega,by omega,by omega,⟨by omega,by omega⟩,by omega,by omega,by omega,⟨by omega,by omega⟩,by omega,by omega,j+1,[7],by omega,⟨rfl,rfl⟩, ?_, ?_,by omega⟩
   ·rw[hup];simp[ac7,pos,mkH]
   ·rw[hup];simp[ac7,os7,da7,xf7,ar7]
  ·have hend:=hend (by omega)
   refine⟨by omega,k+1,[9],by omega,⟨rfl,rfl⟩,rfl, ?_,by omega⟩
   rw[hend];rfl
  ·have hjl:j<(ef7 p k).length:=by omega
   rw[dif_pos hjl]at hup
   have hs:=hs hjl
   simp only[List.length_cons]at hn hnd hln hjl1
   refine⟨by omega,hnd,by omega,by omega,by omega,by omega,by omega,⟨by omega,by omega⟩,by omega,by omega,by omega,⟨by omega,by omega⟩,by omega,by omega,j+1,[7],by omega,⟨rfl,rfl⟩, ?_, ?_,by omega⟩
   ·rw[hup];simp[ac7,pos,mkH]
   ·rw[hup];simp[ac7,os7,da7,xf7,ar7]
  ·have hend:=hend (by omega)
   simp only[List.length_cons]at hts
   refine⟨⟨by simp,by omega⟩,by omega,k+1,[5],by omega,⟨rfl,rfl⟩,rfl, ?_,by omega⟩
   rw[hend];simp[os7,da7,xf7,ar7,pos,mkH,fpb7]
 ·obtain rfl:k=p.trucks.length:=by omega
  obtain⟨hab,hts⟩:=ak7 ok _ (Nat.le_refl _)
  have hsd:ab7 x p=⟨(lb7 x p.trucks).ts,p.bikes.map (eh7 x (lb7 x p.trucks).ready)⟩:=rfl
  rw[List.take_length]at hab hts ⊢
  generalize lb7 x p.trucks=A at hab hts hsd
  obtain⟨ready,ts⟩:=A
  simp only[]at hts hsd
  have hrl:ready.length=x.sats.length:=hab.len
  rw[hsd]
  clear hsd
  refine fr7 (ι:=Nat) 1 [2,4,5,6,86,87] [88] (fun k=>k≤p.bikes.length) (fun k=>[.c (I6 k)]) (fun k=>xl7 x p ts ready ((p.bikes.take k).map (eh7 x ready))) (fun k=>p.bikes.length-k) (by kernel_rfl) ⟨0,Nat.zero_le _,rfl,rfl⟩ (fun k _=>rfl) ?_
  intro k hk
  generalize hrs:(p.bikes.take k).map (eh7 x ready)=rs
  simp -implicitDefEqProofs only [go_sem,xl7,ni7,ee7]
  refine⟨fun h=>?_,fun h=>?_⟩
  ·have hlt:k<p.bikes.length:=by omega
   have hb1:=ok.b1 _ (fh7 hlt ⟨0,[]⟩)
   have hsat:0≤(xe7 p k).sat∧(xe7 p k).sat<x.sats.length:=hb1.2.1
   have hsl:(xe7 p k).stops.length≤100000:=hb1.1
   have hco:∀j,j<(xe7 p k).stops.length→zc7 x ((xe7 p k).stops.getD j 0):=fun j hj=>hb1.2.2 _ (fh7 hj _)
   refine⟨by omega,⟨⟨by omega,by omega⟩,by omega⟩,by omega,by omega, ?_⟩
   refine fr7 (ι:=Nat) 1 [2,4,5,6,15,16,86,87,88,104,105] [17,18,106] (fun j=>j≤(xe7 p k).stops.length) (fun j=>[.c (I6 (bkN x ready (xe7 p k) j).now),.c (I6 (bkN x ready (xe7 p k) j).node),.c (I6 j)]) (fun j=>dmb7 x p ts ready rs (xe7 p k) (ready.getD (xe7 p k).sat.toNat 0) (bkN x ready (xe7 p k) j).starts) (fun j=>(xe7 p k).stops.length-j) (by kernel_rfl) ⟨0,Nat.zero_le _,rfl,rfl⟩ (fun k _=>rfl) ?_
   intro j hj
   have hup:j<(xe7 p k).stops.length→bkN x ready (xe7 p k) (j+1)=bc7 x (bkN x ready (xe7 p k) j) ((xe7 p k).stops.getD j 0):=fun h=>by
    unfold bkN
    rw[List.take_succ_eq_append_getElem h,List.foldl_append,ki7 h];rfl
   have hend:j=(xe7 p k).stops.length→(p.bikes.take (k+1)).map (eh7 x ready)=rs++[⟨ready.getD (xe7 p k).sat.toNat 0,(bkN x ready (xe7 p k) j).starts,(bkN x ready (xe7 p k) j).now+za7 x (bkN x ready (xe7 p k) j).node (1+(xe7 p k).sat)⟩]:=fun e=>by
    subst e
    rw[List.take_succ_eq_append_getElem hlt,List.map_append,hrs]
    unfold bkN
    rw[List.take_length]
    have:xe7 p k=p.bikes[k]:=ki7 hlt _
    rw[this];rfl
   obtain⟨hbd,hln⟩:=pp7 gd (t:=(xe7 p k).stops) (ew7 hrl hab.rdy hsat) rfl ⟨hb1.1,hb1.2.2⟩ j hj
   have hbd:pyb7 x (bkN x ready (xe7 p k) j):=hbd
   have hln:(bkN x ready (xe7 p k) j).starts.length=j:=hln
   generalize bkN x ready (xe7 p k) j=st at hup hend hbd hln
   obtain⟨now,node,l⟩:=st
   have hln:l.length=j:=hln
   have hn:=hbd.now;have hnd:=hbd.node
   have tb:=dc7 gd node (1+x.sats.length+(xe7 p k).stops.getD j 0);have tb0:=dc7 gd node (1+(xe7 p k).sat)
   rcases l with _ | ⟨v,l⟩ <;> rcases rs with _ | ⟨a,rs⟩
   all_goals
    simp -implicitDefEqProofs only [go_sem,dmb7,xl7,ni7,ee7,lH,lR,hm7,bsH,bsR,ll7 (show 5<9 by decide)]
    refine⟨fun h2=>?_,fun h2=>?_⟩
   ·have hjl:j<(xe7 p k).stops.length:=by omega
    have hup:=hup hjl
    have hcj:=hco j hjl
    have cb:=zab7 gd hcj
    simp only[List.length_nil]at hn hnd
    refine⟨by omega,hnd,hcj, ?_⟩
    refine ve7 (axb7 x hcj gd) ⟨trivial,trivial,trivial⟩ rfl (fun r h=>by subst h;rfl) ?_
    rintro r rfl
    simp -implicitDefEqProofs only [go_sem]
    unfold zc7 at hcj
    refine⟨by omega,by omega,by omega,by omega, ?_⟩
    refine ve7 (axb7 x hcj gd) ⟨trivial,trivial,trivial⟩ rfl (fun r h=>by subst h;rfl) ?_
    rintro r rfl
    refine⟨by omega,j+1,[11],by omega,⟨rfl,rfl⟩, ?_, ?_,by omega⟩
    ·rw[hup];rfl
    ·rw[hup];simp -implicitDefEqProofs only [go_sem,bc7,dmb7,xl7,bsH,bsR,lH,lR,hm7,ll7 (show 5<9 by decide),ni7,ee7,List.nil_append,List.cons_append,List.length_append]
   ·have hend:=hend (by omega)
    simp only[List.length_nil]at hn hnd
    refine⟨hnd,by omega,by omega,by omega,by omega,k+1,[11],by omega,⟨rfl,rfl⟩,rfl, ?_,by omega⟩
    rw[hend];simp -implicitDefEqProofs only [go_sem,xl7,bsH,bsR,fpb7,hm7,ll7 (show 5<6 by decide),ni7,ee7,List.nil_append,List.cons_append,List.length_append,List.map_append]
   ·have hjl:j<(xe7 p k).stops.length:=by omega
    have hup:=hup hjl
    have hcj:=hco j hjl
    have cb:=zab7 gd hcj
    simp only[List.length_nil]at hn hnd
    refine⟨by omega,hnd,hcj, ?_⟩
    refine ve7 (axb7 x hcj gd) ⟨trivial,trivial,trivial⟩ rfl (fun r h=>by subst h;rfl) ?_
    rintro r rfl
    simp -implicitDefEqProofs only [go_sem]
    unfold zc7 at hcj
    refine⟨by omega,by omega,by omega,by omega, ?_⟩
    refine ve7 (axb7 x hcj gd) ⟨trivial,trivial,trivial⟩ rfl (fun r h=>by subst h;rfl) ?_
    rintro r rfl
    refine⟨by omega,j+1,[11],by omega,⟨rfl,rfl⟩, ?_, ?_,by omega⟩
    ·rw[hup];rfl
    ·rw[hup];simp -implicitDefEqProofs only [go_sem,bc7,dmb7,xl7,bsH,bsR,lH,lR,hm7,ll7 (show 5<9 by decide),ni7,ee7,List.nil_append,List.cons_append,List.length_append]
   ·have hend:=hend (by omega)
    simp only[List.length_nil]at hn hnd
    have hlr:rs.length+1=k:=by have:=congrArg List.length hrs;simp at this;omega
    refine⟨hnd,by omega,by omega,by omega,⟨by simp,by omega⟩,by omega,k+1,[6],by omega,⟨rfl,rfl⟩,rfl, ?_,by omega⟩
    rw[hend];simp -implicitDefEqProofs only [go_sem,xl7,bsH,bsR,fpb7,hm7,ll7 (show 5<6 by decide),ni7,ee7,List.nil_append,List.cons_append,List.length_append,List.map_append]
   ·have hjl:j<(xe7 p k).stops.length:=by omega
    have hup:=hup hjl
    have hcj:=hco j hjl
    have cb:=zab7 gd hcj
    simp only[List.length_cons]at hn hnd hln
    refine⟨by omega,hnd,hcj, ?_⟩
    refine ve7 (axb7 x hcj gd) ⟨trivial,trivial,trivial⟩ rfl (fun r h=>by subst h;rfl) ?_
    rintro r rfl
    simp -implicitDefEqProofs only [go_sem]
    unfold zc7 at hcj
    refine⟨by omega,by omega,by omega,by omega,by omega, ?_⟩
    refine ve7 (axb7 x hcj gd) ⟨trivial,trivial,trivial⟩ rfl (fun r h=>by subst h;rfl) ?_
    rintro r rfl
    refine⟨by omega,j+1,[9],by omega,⟨rfl,rfl⟩, ?_, ?_,by omega⟩
    ·rw[hup];rfl
    ·rw[hup];simp -implicitDefEqProofs only [go_sem,bc7,dmb7,xl7,bsH,bsR,lH,lR,hm7,ll7 (show 5<9 by decide),ni7,ee7,List.nil_append,List.cons_append,List.length_append]
   ·have hend:=hend (by omega)
    simp only[List.length_cons]at hn hnd hln
    refine⟨hnd,by omega,by omega,by omega,by omega,k+1,[11],by omega,⟨rfl,rfl⟩,rfl, ?_,by omega⟩
    rw[hend];simp -implicitDefEqProofs only [go_sem,xl7,bsH,bsR,fpb7,hm7,ll7 (show 5<6 by decide),ni7,ee7,List.nil_append,List.cons_append,List.length_append,List.map_append];rfl
   ·have hjl:j<(xe7 p k).stops.length:=by omega
    have hup:=hup hjl
    have hcj:=hco j hjl
    have cb:=zab7 gd hcj
    simp only[List.length_cons]at hn hnd hln
    refine⟨by omega,hnd,hcj, ?_⟩
    refine ve7 (axb7 x hcj gd) ⟨trivial,trivial,trivial⟩ rfl (fun r h=>by subst h;rfl) ?_
    rintro r rfl
    simp -implicitDefEqProofs only [go_sem]
    unfold zc7 at hcj
    refine⟨by omega,by omega,by omega,by omega,by omega, ?_⟩
    refine ve7 (axb7 x hcj gd) ⟨trivial,trivial,trivial⟩ rfl (fun r h=>by subst h;rfl) ?_
    rintro r rfl
    refine⟨by omega,j+1,[9],by omega,⟨rfl,rfl⟩, ?_, ?_,by omega⟩
    ·rw[hup];rfl
    ·rw[hup];simp -implicitDefEqProofs only [go_sem,bc7,dmb7,xl7,bsH,bsR,lH,lR,hm7,ll7 (show 5<9 by decide),ni7,ee7,List.nil_append,List.cons_append,List.length_append]
   ·have hend:=hend (by omega)
    simp only[List.length_cons]at hn hnd hln
    have hlr:rs.length+1=k:=by have:=congrArg List.length hrs;simp at this;omega
    refine⟨hnd,by omega,by omega,by omega,⟨by simp,by omega⟩,by omega,k+1,[6],by omega,⟨rfl,rfl⟩,rfl, ?_,by omega⟩
    rw[hend];simp -implicitDefEqProofs only [go_sem,xl7,bsH,bsR,fpb7,hm7,ll7 (show 5<6 by decide),ni7,ee7,List.nil_append,List.cons_append,List.length_append,List.map_append];rfl
  ·obtain rfl:k=p.bikes.length:=by omega
   rw[List.take_length]at hrs
   rw[hrs]
   rcases ts with _ | ⟨a,ts⟩ <;> rcases rs with _ | ⟨b,rs⟩
   all_goals simp -implicitDefEqProofs only [go_sem,tsH,tsR,bsH,bsR]
   ·exact⟨_,⟨_,rfl,_,_,rfl,.inr (.inr ⟨1,_,rfl⟩),_,_,rfl,.inr (.inr ⟨3,_,rfl⟩),rfl⟩,rfl⟩
   ·exact⟨by simp,_,⟨_,rfl,_,_,rfl,.inr (.inr ⟨1,_,rfl⟩),_,_,rfl,.inr (kwb7 (b::rs)),rfl⟩,rfl⟩
   ·exact⟨by simp,_,⟨_,rfl,_,_,rfl,.inr (hxb7 (a::ts)),_,_,rfl,.inr (.inr ⟨3,_,rfl⟩),rfl⟩,rfl⟩
   ·exact⟨⟨by simp,by simp⟩,_,⟨_,rfl,_,_,rfl,.inr (hxb7 (a::ts)),_,_,rfl,.inr (kwb7 (b::rs)),rfl⟩,rfl⟩
def xx7 (l:List (List ea7)):Nat:=(l.map List.length).sum
theorem dac7 (l:List (List ea7)):ya7 l l.length=xx7 l:=by unfold ya7 xx7;rw[List.take_length]
theorem lkb7 (a:List ea7):∀(l:List (List ea7)) (t:Nat),xx7 (l.set t a)≤xx7 l+a.length
 | [],t=>by simp[xx7]
 | b::l,0=>by simp[xx7];omega
 | b::l,t+1=>by have:=lkb7 a l t;simp only[xx7,List.set_cons_succ,List.map_cons,List.sum_cons]at this ⊢; omega
theorem zbb7:∀(l:List (List ea7)) (t:Nat),(l.getD t []).length≤xx7 l
 | [],t=>by simp[xx7]
 | b::l,0=>by simp[xx7]
 | b::l,t+1=>by have:=zbb7 l t;simp only[xx7,List.getD_cons_succ,List.map_cons,List.sum_cons]at this ⊢; omega
theorem wfb7 {p:sa7}(h:fab7 p) (hs:xx7 p.trucks≤20000) (what at_:Nat) (hat:at_≤255) {by_:Int}(hby:-128≤by_∧by_≤127):xx7 (ib7 p what at_ by_).trucks≤100000∧∀t∈(ib7 p what at_ by_).trucks,∀s∈t,lh7 s:=by
 have base:∀t∈p.trucks,∀s∈t,lh7 s:=(pnb7 h).trucks
 have small:∀T,∀s∈p.trucks.getD T [],(-1000000000≤s.sat∧s.sat≤1000000000) ∧ -1000000000≤s.load∧s.load≤1000000000:=fun T s hm=>by
  rw[List.getD_eq_getElem?_getD]at hm
  by_cases hT:T<p.trucks.length
  ·rw[List.getElem?_eq_getElem hT]at hm;exact (h.ts _ (List.getElem_mem hT)).2 s hm
  ·rw[List.getElem?_eq_none (by omega)]at hm;cases hm
 have hset:∀(T:Nat) (a:List ea7),a.length≤20001→(∀s∈a,lh7 s)→xx7 (p.trucks.set T a)≤100000∧∀t∈p.trucks.set T a,∀s∈t,lh7 s:=fun T a h1 h2=>by
  refine⟨by have:=lkb7 a p.trucks T;omega,fun t ht=>?_⟩
  rcases List.mem_or_eq_of_mem_set ht with h' | rfl
  ·exact base t h'
  ·exact h2
 unfold ib7
 split
 ·exact⟨by omega,base⟩
 ·show xx7 (ot7 p _ _ _ (at_:Int) by_)≤100000∧∀t∈ot7 p _ _ _ (at_:Int) by_,∀s∈t,lh7 s
  generalize at_ % p.trucks.length=T
  generalize (at_ / 3) % _=K
  have hg:=small T
  have hgl:=zbb7 p.trucks T
  unfold ot7
  generalize p.trucks.getD T []=tl at *
  have hw:∀s∈tl,lh7 s:=fun s hm=>by have:=hg s hm;unfold lh7 pa7;omega
  have hK:(-1000000000≤(tl.getD K ⟨0,0⟩).sat∧(tl.getD K ⟨0,0⟩).sat≤1000000000) ∧ -1000000000≤(tl.getD K ⟨0,0⟩).load∧(tl.getD K ⟨0,0⟩).load≤1000000000:=by
   rw[List.getD_eq_getElem?_getD]
   by_cases hK:K<tl.length
   ·rw[List.getElem?_eq_getElem hK];exact hg _ (List.getElem_mem hK)
   ·rw[List.getElem?_eq_none (by omega)];simp
  generalize tl.getD K ⟨0,0⟩=st at *
  have happ:∀u,lh7 u→∀s∈tl++[u],lh7 s:=fun u hu s hm=>by
   rcases List.mem_append.1 hm with hm | hm
   ·exact hw s hm
   ·obtain rfl:=List.mem_singleton.1 hm;exact hu
  have hst:∀u,lh7 u→∀s∈tl.set K u,lh7 s:=fun u hu s hm=>by
   rcases List.mem_or_eq_of_mem_set hm with hm | rfl
   ·exact hw s hm
   ·exact hu
  split
  ·exact hset _ _ (by rw[List.length_set];omega) (hst _ (by unfold lh7 pa7;simp only;omega))
  ·exact hset _ _ (by rw[List.length_set];omega) (hst _ (by unfold lh7 pa7;simp only;omega))
  ·exact hset _ _ (by rw[List.length_append,List.length_singleton];omega) (happ _ (by unfold lh7 pa7;simp only;omega))
  ·refine⟨by simp[xx7]at hs ⊢; omega,fun t ht=>?_⟩
   rcases List.mem_append.1 ht with ht | ht
   ·exact base t ht
   ·obtain rfl:=List.mem_singleton.1 ht;intro s hs;cases hs
  ·exact hset _ _ (by rw[List.length_append,List.length_singleton];omega) (happ _ (by unfold lh7 pa7;simp only;omega))
  ·exact⟨by omega,base⟩
structure POk (p:sa7):Prop where
 wf:ujb7 p
 small:jc7 p
theorem jz7 {x:ba7}(w:hf7) (hns:1≤x.sats.length∧x.sats.length≤3) (hnc:1≤x.custs.length∧x.custs.length≤6) (hcl:∀c∈x.custs,1≤c.load∧c.load≤1000):xx7 (sf7 x w).trucks≤18000:=by
 have hol:(af7 x w).length=x.custs.length:=lg7 _ _
 have hk:=aj7 (x:=x) w (os:=af7 x w) (fun c hc=>by have:=hcl c hc;omega) (by omega) (cj7 _ _) (af7 x w).length (Nat.le_refl _)
 have hlv:∀s,(nb7 x w).1.getD s 0≤6000:=fun s=>by
  rw[List.getD_eq_getElem?_getD]
  by_cases hs:s<(nb7 x w).1.length
  ·rw[List.getElem?_eq_getElem hs]
   have:=hk.loB _ (List.getElem_mem hs)
   exact Int.le_trans this.2 (by rw[hol];omega)
  ·rw[List.getElem?_eq_none (by omega)];simp
 have hd:=phb7 (x:=x) (w:=w) hlv (nb7 x w).1.length
 have hll:(nb7 x w).1.length≤3:=by unfold nb7;rw[hk.loL];omega
 have h3:6000*(nb7 x w).1.length≤6000*3:=Nat.mul_le_mul_left _ hll
 show ((dUp x w (nb7 x w).1 (nb7 x w).1.length).1.map List.length).sum≤_
 omega
theorem kvb7 {y:ba7}(h:YOk y) (wi:hf7):POk (sf7 y wi) :=
 ⟨pnb7 (yh7 wi h.ns h.nc h.ld h.troom),kgb7 wi h.ns h.nc h.ld h.troom⟩
theorem ebb7 {y:ba7}(h:YOk y) (wi:hf7) (what at_:Nat) (hat:at_≤255) {by_:Int}(hby:-128≤by_∧by_≤127):POk (ib7 (sf7 y wi) what at_ by_):=by
 have hf:=yh7 wi h.ns h.nc h.ld h.troom
 have h1:=ov7 hf what at_ hby
 have h2:=wfb7 hf (by have:=jz7 wi h.ns h.nc h.ld;omega) what at_ hat hby
 refine⟨⟨h2.2,fun b hb=>⟨(h1.2 b hb).1,(h1.2 b hb).2.2⟩⟩, ?_, ?_⟩
 ·have h3:=cs7 (m:=200) (fun b hb=>(h1.2 b hb).2.1) (ib7 (sf7 y wi) what at_ by_).bikes.length (Nat.le_refl _)
  have h4:=Nat.mul_le_mul_left 200 h1.1
  omega
 ·rw[dac7];omega
theorem kub7 {y:ba7}(h:YOk y) (wi:hf7) {what at_:Nat}(hwh:what≤255) (hat:at_≤255) {by_:Int}(hby:-128≤by_∧by_≤127) :
  PCall Tryz.prog 24 [.agg (ee7 (sf7 y wi)),.c (.int .u8 what),.c (.int .u8 at_),.c (.int .i8 by_)] (fun r=>r = .agg (ee7 (ib7 (sf7 y wi) what at_ by_))) :=
 tn7 ⟨_,_,Tryz.func24,by kernel_rfl,rfl⟩ fun rho w vs hc=>by
  obtain⟨_,_,rfl,⟨cs,rfl,h1⟩,_,_,rfl,rfl,_,_,rfl,rfl,_,_,rfl,rfl,rfl⟩:=hc
  have hf:=yh7 wi h.ns h.nc h.ld h.troom
  refine (wsb7 (kxb7 h1 (kvb7 h wi).wf) hwh hat hby hf.tl (by have:=hf.bl;omega) hf.ts (fun b hb=>by have:=hf.bs b hb;exact⟨this.1,by omega,this.2.2⟩)).mono ?_
  rintro e w' ⟨tv,bv,ts,vs,rfl,hT,hB,hb⟩
  exact⟨_,_,rfl,rfl,ckb7 hT hB (ebb7 h wi what at_ hat hby).wf,hb⟩
theorem tcc7 {y:ba7}{p:sa7}(h:YOk y) (hp:POk p):PCall Tryz.prog 22 [.agg (ni7 y),.agg (ee7 p)] (fun r=>r = .c (I6 (na7 y p))) :=
 tn7 ⟨_,_,Tryz.func22,by kernel_rfl,rfl⟩ fun rho w vs hc=>by
  obtain⟨_,_,rfl,⟨cs,rfl,h1⟩,_,_,rfl,⟨ds,rfl,h2⟩,rfl⟩:=hc
  refine (gfc7 (nxb7 h1 h.k) (kxb7 h2 hp.wf) h.chk h.nc.2 hp.small).mono ?_
  rintro e w' ⟨rfl,hb⟩
  exact⟨_,_,rfl,rfl,rfl,hb⟩
theorem czb7 {y:ba7}{p:sa7}(h:YOk y) (hc:na7 y p=0):zy7 y p:=by
 have hb:=jr7 hc h.nc.2
 have gd:=vf7 h.chk
 have hl:=hb.b
 refine⟨gd,by have:=hb.tl;omega,fun t ht=>⟨by have:=hb.t1 t ht;omega,fun s hs=>((hb.ok.truck t ht).2 s hs).1⟩,by omega,fun b hbm=>?_⟩
 have h1:=hb.ok.bike b hbm
 have h2:=ah7 hbm
 have h3:=hb.s
 exact⟨by omega,h1.1,h1.2.2⟩
end Go.Proofs.YtabadfkikdefeaaGreat.Ab

namespace Go.Proofs.YtabadfkikdefeaaGreat.Ab
open Go.RowKit
theorem glob_triv {rho:Nat→Prop}{w:World}:mw7 rho w:=⟨trivial,fun _ _ h=>by cases h⟩
theorem vfc7 {P:Program}{f:FuncId}{args:List RV}{w:World}{vs:List Value}(h:PCall P f args (fun r=>r = .c (.bool true))) (hc:Con0RL (fun b=>b<w.heap.size) w args vs):Calls P f vs.toArray w fun e w'=>e = .returned (.bool true)∧Below w.heap.size w w':=by
 refine (h.2 _ w vs glob_triv (fun _ h=>h) hc).mono ?_
 rintro e w' ⟨r,v,rho',rfl,rfl,h1,-,h2⟩
 obtain rfl:v = .bool true:=h1
 exact⟨rfl,h2⟩
abbrev eI8 (l:List Int):AV:=.sl l.length 1 (fun i _=>.int .i8 (l.getD i 0))
theorem yk7 {H:List Root}{pu:Pu}{kn ks:Nat}{x n what:Int}{l:List Int}(hpu:pu=none∨pu=some (some kn)) (r1:da7 H kn = .live false 3 1 (.box [.int .i64 n])) (r2:da7 H ks = .live false 32 2 (.box [eI8 l,.int .u8 what])) (hne:ks≠kn)
  (hl:∀v∈l,-128≤v∧v≤127) (hll:l.length≤9223372036854775807) (hn:0≤n∧n≤1000000000000) (hx:-10000000000000000≤x∧x≤10000000000000000) {K:RV→List Root→Prop}
  (hK:K (.c (.int .i64 (x+fy7 l n))) (la7 H kn (.live false 3 1 (.box [.int .i64 (n+1)])))) :
  no7 Tryz.prog pu 81 [.c (.int .i64 x),.c (.ptr kn 1 0 0),.c (.ptr ks 1 0 0)] H K:=by
 refine⟨⟨_,_,Tryz.func81,by kernel_rfl,rfl⟩,fun E M w vs h hc=>?_⟩
 obtain⟨_,_,rfl,c0,v1,_,rfl,c1,v2,_,rfl,c2,rfl⟩:=hc
 obtain rfl:=c0
 obtain⟨cur,a1,a2,a3,a4,a5,a6⟩:=h.row _ _ _ _ _ r1
 have o1:M.off kn=0:=(a5 rfl).1
 obtain⟨cur2,b1,b2,b3,b4,b5,b6⟩:=h.row _ _ _ _ _ r2
 have o2:M.off ks=0:=(b5 rfl).1
 obtain rfl:v1 = .pointer (some ⟨M.phi kn,0*1+0,none⟩):=by have:=(c1.2 _ _ _ _ r1).2 rfl;rw[o1]at this;simpa using this
 obtain rfl:v2 = .pointer (some ⟨M.phi ks,0*2+0,none⟩):=by have:=(c2.2 _ _ _ _ r2).2 rfl;rw[o2]at this;simpa using this
 rw[o1]at a6
 rw[o2]at b6
 simp only[Nat.zero_add]at a6 b6
 obtain⟨u,u1,-,u2⟩:=a6 0 (Nat.zero_lt_one) 0 (Nat.zero_lt_one)
 obtain rfl:u = .int .i64 n:=u2
 have R:_root_.Go.Proofs.YtabadfkikdefeaaGreat.Row w (M.phi kn) 3 [.int .i64 n]:=⟨cur,cur.toList.drop 1,a1,by
  obtain⟨cl⟩:=cur
  cases cl with
  | nil=>simp at u1
  | cons q cl=>simp at u1;simp[u1]⟩
 obtain⟨sv,s1,-,s2⟩:=b6 0 (Nat.zero_lt_one) 0 (by decide)
 obtain⟨a,b,off,c,rfl,g1,g2,g3,g4⟩:we7 M.rho w (eI8 l) sv:=s2
 have hs:w.cell? ⟨M.phi ks,0,none⟩=some (.slice a l.length c):=by
  have:cur2[0]? = some (.slice a l.length c):=s1
  simp[World.cell?,b1,this]
 have hphi:M.phi ks≠M.phi kn:=fun e=>hne (h.inj _ _ _ _ _ _ _ _ r2 r1 e)
 obtain⟨b',hb1,hb2,hb3⟩:∃b',b'≠M.phi kn∧(0<l.length→a=some ⟨b',off,none⟩)∧(0<l.length→b'=b):=by
  by_cases h0:0<l.length
  ·exact⟨b,fun e=>h.thaw _ _ _ _ r1 (e ▸ (g3 h0).2),fun _=>(g3 h0).1,fun _=>rfl⟩
  ·exact⟨M.phi kn+1,by omega,fun h=>absurd h h0,fun h=>absurd h h0⟩
 obtain⟨w2,q1,q2,q3⟩:=ju7 (P:=Tryz.prog) h r1 (i:=0) (o:=0) (cs:=[.int .i64 (n+1)]) (vs:=[.int .i64 (n+1)]) Nat.zero_lt_one (Nat.le_refl _) (fun v hv=>by obtain rfl:=List.mem_singleton.1 hv;rfl) rfl (fun j v hv=>by
  cases j with
  | zero=>cases hv;exact rfl
  | succ j=>simp at hv) trivial
 have hw2:w2=w.setCell ⟨M.phi kn,0,none⟩ (.int .i64 (n+1)):=by
  have c0:=R.cell (j:=0) (by simp)
  have f0:=R.frozen 0
  have:=run_storeCells_cells (P:=Tryz.prog) (M.phi kn) 0 [.int .i64 (n+1)] 0 w (fun j hj=>by
   obtain rfl:j=0:=by simpa using hj
   simp[c0]) (fun j hj=>by
   obtain rfl:j=0:=by simpa using hj
   simpa using f0) (fun v hv=>by obtain rfl:=List.mem_singleton.1 hv;rfl)
  rw[show (⟨M.phi kn,M.off kn+0*1+0,none⟩:Addr)=⟨M.phi kn,0,none⟩ by rw[o1],this]at q3
  cases q3
  rfl
 subst hw2
 refine (ngc7 (x:=x) R hs hphi hb1 hb2 (fun k hk=>?_) hn hx hll).mono ?_
 ·obtain⟨u,k1,k2⟩:=g4 k hk 0 (by decide)
  obtain rfl:=hb3 (by omega)
  have k2:u = .int .i8 (l.getD k 0):=k2
  rw[List.getD_eq_getElem?_getD,List.getElem?_eq_getElem hk]at k2
  simp only[Option.getD_some]at k2
  subst k2
  refine⟨by rw[← k1];congr 2;omega,hl _ (List.getElem_mem hk)⟩
 ·rintro e w' ⟨rfl,hb⟩
  refine⟨M,_,.c (.int .i64 (x+fy7 l n)),_,rfl,q1.below hb,q2.trans (Kp.below q1 hb),rfl,fun g hg=>?_,by rw[cb7];exact Nat.le_refl _,hK⟩
  rcases hpu with rfl | rfl
  ·cases hg
  ·cases hg
   refine⟨Nat.le_trans (by simp[World.setCell]) hb.size,fun k hk hk2=>?_⟩
   rw[hb.block k (by simpa[World.setCell]using hk)]
   exact Below.heap_setCell _ _ _ _ (fun e=>hk2 (by rw[e];rfl))
abbrev ckI:List CK:=[.i .i64]
abbrev vgc7 (b:Nat):List CK:=[.s 2 ckI b]
abbrev ugc7 (b:Nat):List CK:=[.i .i64,.s 2 ckI b,.i .i64]
abbrev ckT:List CK:=vgc7 200000
abbrev ckR:List CK:=ugc7 200000
def nfb7 (r:RV):Prop:=∃t:tb7,r = .agg (zb7 t)∧(∀l∈t.trucks,∀v∈l,pa7 v)∧(∀r∈t.bikes,pa7 r.out∧pa7 r.back∧∀v∈r.starts,pa7 v)∧t.trucks.length≤200000∧t.bikes.length≤200000
theorem mkL {α:Type}{n:Nat}{P:Nat→α→Prop}(d:α) (key:∀i,i<n→∃a,P i a):∃l:List α,l.length=n∧∀i,i<n→P i (l.getD i d):=by
 refine⟨(List.range n).map fun i=>if h:i<n then (key i h).choose else d,by simp,fun i hi=>?_⟩
 have e:((List.range n).map fun i=>if h:i<n then (key i h).choose else d).getD i d=(key i hi).choose:=by
  rw[ki7 (by simpa using hi)];simp[hi]
 rw[e];exact (key i hi).choose_spec
theorem fqb7 {d:Nat}{x:AV}(h:Rd d (.i .i64) x):∃v,x = .int .i64 v∧pa7 v:=by
 cases d <;> exact h
theorem gsb7 {x:AV}{b:Nat}(h:Rd 1 (.s 2 ckI b) x):∃l:List Int,(∀v∈l,pa7 v)∧Eqv x (ye7 l):=by
 obtain⟨n,f,rfl,-,h2⟩:=h
 obtain⟨l,hl,h4⟩:=mkL (n:=n) (P:=fun i v=>f i 0 = .int .i64 v∧pa7 v) (0:Int) fun i hi=>fqb7 (h2 i hi 0 (.i .i64) rfl)
 subst hl
 refine⟨l,fun v hv=>?_,_,rfl,fun i hi j hj=>?_⟩
 ·obtain⟨i,hi,rfl⟩:=List.getElem_of_mem hv
  have:=(h4 i hi).2
  rwa [ki7 hi]at this
 ·obtain rfl:j=0:=Nat.lt_one_iff.1 hj
  rw[(h4 i hi).1];rfl
theorem xob7 {n b:Nat}{x:AV}(h:RdS 1 (vgc7 b) n x):∃L:List (List Int),L.length=n∧(∀l∈L,∀v∈l,pa7 v)∧Eqv x (.sl L.length 1 (fun i _=>ye7 (L.getD i []))):=by
 obtain⟨f,rfl,h2⟩:=h
 obtain⟨L,hl,h4⟩:=mkL (n:=n) (P:=fun i l=>(∀v∈l,pa7 v)∧Eqv (f i 0) (ye7 l)) ([]:List Int) fun i hi=>gsb7 (h2 i hi 0 _ rfl)
 subst hl
 refine⟨L,rfl,fun l hm=>?_,_,rfl,fun i hi j hj=>?_⟩
 ·obtain⟨i,hi,rfl⟩:=List.getElem_of_mem hm
  have:=(h4 i hi).1
  rwa [ki7 hi]at this
 ·obtain rfl:j=0:=Nat.lt_one_iff.1 hj
  exact (h4 i hi).2
theorem zvb7 {n b:Nat}{x:AV}(h:RdS 1 (ugc7 b) n x):∃L:List dd7,L.length=n∧(∀r∈L,pa7 r.out∧pa7 r.back∧∀v∈r.starts,pa7 v)∧Eqv x (.sl L.length 3 (fun i=>ix3 (I6 (L.getD i ⟨0,[],0⟩).out) (ye7 (L.getD i ⟨0,[],0⟩).starts) (I6 (L.getD i ⟨0,[],0⟩).back))):=by
 obtain⟨f,rfl,h2⟩:=h
 obtain⟨L,hl,h4⟩:=mkL (n:=n) (P:=fun i (r:dd7)=>(pa7 r.out∧pa7 r.back∧∀v∈r.starts,pa7 v)∧f i 0=I6 r.out∧Eqv (f i 1) (ye7 r.starts)∧f i 2=I6 r.back) (⟨0,[],0⟩:dd7) fun i hi=>by
  obtain⟨a,a1,a2⟩:=fqb7 (h2 i hi 0 (.i .i64) rfl)
  obtain⟨l,l1,l2⟩:=gsb7 (h2 i hi 1 _ rfl)
  obtain⟨c,c1,c2⟩:=fqb7 (h2 i hi 2 (.i .i64) rfl)
  exact⟨⟨a,l,c⟩,⟨a2,c2,l1⟩,a1,l2,c1⟩
 subst hl
 refine⟨L,rfl,fun l hm=>?_,_,rfl,fun i hi j hj=>?_⟩
 ·obtain⟨i,hi,rfl⟩:=List.getElem_of_mem hm
  have:=(h4 i hi).1
  rwa [ki7 hi]at this
 ·obtain⟨-,k1,k2,k3⟩:=h4 i hi
  match j,hj with
  | 0,_=>rw[k1];rfl
  | 1,_=>exact k2
  | 2,_=>rw[k3];rfl
theorem jxb7 {k:Nat}{a b:AV}{H:List Root}(ha:a = .nils∨∃n,n≤200000∧a = .ws 78 (vgc7 k) n) (hb:b = .nils∨∃n,n≤200000∧b = .ws 136 (ugc7 k) n):sic7 1 nfb7 (.agg [a,b]) H:=by
 refine⟨[a,b],rfl, ?_, ?_⟩
 ·rcases ha with rfl | ⟨n,-,rfl⟩ <;> rcases hb with rfl | ⟨m,-,rfl⟩ <;> rfl
 ·rintro l' ⟨x,_,rfl,hx,y,_,rfl,hy,rfl⟩
  have h1:∃L:List (List Int),L.length≤200000∧(∀l∈L,∀v∈l,pa7 v)∧Eqv x (.sl L.length 1 (fun i _=>ye7 (L.getD i []))):=by
   rcases ha with rfl | ⟨n,hn,rfl⟩
   ·obtain rfl:x = .nils:=hx
    exact⟨[],Nat.zero_le _,fun l h=>(by cases h),.inr ⟨1,_,rfl⟩⟩
   ·obtain⟨L,l1,l2,l3⟩:=xob7 hx
    exact⟨L,by omega,l2,l3⟩
  have h2:∃L:List dd7,L.length≤200000∧(∀r∈L,pa7 r.out∧pa7 r.back∧∀v∈r.starts,pa7 v)∧Eqv y (.sl L.length 3 (fun i=>ix3 (I6 (L.getD i ⟨0,[],0⟩).out) (ye7 (L.getD i ⟨0,[],0⟩).starts) (I6 (L.getD i ⟨0,[],0⟩).back))):=by
   rcases hb with rfl | ⟨n,hn,rfl⟩
   ·obtain rfl:y = .nils:=hy
    exact⟨[],Nat.zero_le _,fun l h=>(by cases h),.inr ⟨3,_,rfl⟩⟩
   ·obtain⟨L,l1,l2,l3⟩:=zvb7 hy
    exact⟨L,by omega,l2,l3⟩
  obtain⟨L,l1,l2,l3⟩:=h1
  obtain⟨B,b1,b2,b3⟩:=h2
  exact⟨zb7 ⟨L,B⟩,⟨_,_,rfl,.inr l3,_,_,rfl,.inr b3,rfl⟩,⟨L,B⟩,rfl,l2,b2,l1,b1⟩
def upK:CK→CK
 | .i k=>.i k
 | .s t ck b=>.s t (upKs ck) (b+1)
where upKs:List CK→List CK
 | []=>[]
 | q::l=>upK q::upKs l
def upA:AV→AV
 | .ws t ck n=>.ws t (upK.upKs ck) n
 | .wu t ck b=>.wu t (upK.upKs ck) b
 | .wp t ck o=>.wp t (upK.upKs ck) o
 | x=>x
def upL:List AV→List AV
 | []=>[]
 | x::l=>upA x::upL l
mutual
def upR:RV→RV
 | .c a=>.c (upA a)
 | .agg l=>.agg (upL l)
 | .fn f l=>.fn f (upL l)
 | .tup l=>.tup (vjc7 l)
 | .ifc t x=>.ifc t (upR x)
def vjc7:List RV→List RV
 | []=>[]
 | x::l=>upR x::vjc7 l
end
def upW:Row→Row
 | .box l=>.box (upL l)
 | .own l=>.own (l.map upL)
 | r=>r
def rbc7:Root→Root
 | .live fz t sz r=>.live fz t sz (upW r)
 | .dead=>.dead
def upH:List Root→List Root
 | []=>[]
 | r::l=>rbc7 r::upH l
def upT:Tm→Tm
 | []=>[]
 | (k,g,v)::l=>(k,g,upR v)::upT l
def upM (M:Mp):Mp:=⟨M.phi,M.off,M.rho,fun b=>(M.tau b).map fun q=>(q.1,upK.upKs q.2)⟩
section
variable {P:Program} {E:Env} {nt:Nat} {M:Mp} {H:List Root} {σ:AS} {a:Act} {w:World}
theorem sl7:∀l:List CK,(upK.upKs l).length=l.length
 | []=>rfl
 | _::l=>by simp[upK.upKs,sl7 l]
theorem irb7:∀(l:List CK) (j:Nat) (q:CK),(upK.upKs l)[j]? = some q→∃q0,l[j]? = some q0∧q=upK q0
 | [],j,q,h=>by simp[upK.upKs]at h
 | x::l,0,q,h=>⟨x,rfl,by simpa[upK.upKs]using h.symm⟩
 | x::l,j+1,q,h=>by simpa using irb7 l j q (by simpa[upK.upKs]using h)
theorem dob7 {b:Nat}{t:TypeId}{ck:List CK}(h:M.tau b=some (t,ck)):(upM M).tau b=some (t,upK.upKs ck):=by
 show (M.tau b).map _=_
 rw[h];rfl
theorem whb7 {b:Nat}{q:TypeId×List CK}(h:(upM M).tau b=some q):∃q0,M.tau b=some q0∧q=(q0.1,upK.upKs q0.2):=by
 have h:(M.tau b).map _=some q:=h
 cases hq:M.tau b with
 | none=>rw[hq]at h;cases h
 | some q0=>rw[hq]at h;exact⟨q0,rfl,(Option.some.inj h).symm⟩
theorem WSl.up {t:TypeId}{ck:List CK}{n:Nat}{v:Value}(h:WSl M w t ck n v):WSl (upM M) w t (upK.upKs ck) n v:=by
 obtain⟨x,c,rfl,h1,h2,h3,h4⟩:=h
 refine⟨x,c,rfl,h1,h2,h3,fun ad e=>?_⟩
 obtain⟨b,cur,e,g1,g2,g3⟩:=h4 ad e
 exact⟨b,cur,e,dob7 g1,g2,by rw[sl7];exact g3⟩
theorem gz7.up {q:CK}{v:Value}(h:gz7 M w q v):gz7 (upM M) w (upK q) v:=by
 cases q with
 | i k=>exact h
 | s t ck b=>obtain⟨n,h1,h2⟩:=h;exact⟨n,by omega,h2.up⟩
theorem ql7 {id:Nat}{fz:Bool}{t:TypeId}{sz:Nat}{r:Row}:∀{H:List Root},da7 (upH H) id = .live fz t sz r→∃r0,da7 H id = .live fz t sz r0∧r=upW r0:=by
 intro H
 induction H generalizing id with
 | nil=>intro h;cases h
 | cons x l ih =>
  cases id with
  | zero =>
   intro h
   cases x with
   | dead=>cases h
   | live fz' t' sz' r'=>cases h;exact⟨r',rfl,rfl⟩
  | succ id=>exact fun h=>ih h
theorem pgb7:∀H:List Root,(upH H).length=H.length
 | []=>rfl
 | _::l=>by simp[upH,pgb7 l]
theorem abb7 (r:Row):(upW r).len=r.len:=by
 cases r with
 | own l=>simp[upW,Row.len]
 | _=>rfl
theorem kyb7 (r:Row):(upW r).one=r.one:=by cases r <;> rfl
theorem sec7 (l:List (List AV)) (i:Nat):(l.map upL).getD i []=upL (l.getD i []):=by
 simp only[List.getD_eq_getElem?_getD,List.getElem?_map]
 cases l[i]? <;> rfl
theorem zac7 (r:Row):(upW r).isBox=r.isBox:=by cases r <;> rfl
theorem tpb7:∀(l:List AV) (o:Nat),nth (upL l) o=upA (nth l o)
 | [],_=>rfl
 | _::_,0=>rfl
 | _::l,o+1=>by simp only[upL,nth];exact tpb7 l o
theorem Con.up {x:AV}{v:Value}(h:Con M H w x v):Con (upM M) (upH H) w (upA x) v:=by
 cases x with
 | ptr id n i o =>
  refine⟨⟨by rw[pgb7];exact h.1.1,h.1.2⟩,fun fz t sz r hr=>?_⟩
  obtain⟨r0,k1,rfl⟩:=ql7 hr
  rw[abb7]
  exact h.2 _ _ _ _ k1
 | h id st len =>
  refine⟨⟨by rw[pgb7];exact h.1.1,h.1.2⟩,fun fz t sz r hr=>?_⟩
  obtain⟨r0,k1,rfl⟩:=ql7 hr
  rw[abb7]
  exact h.2 _ _ _ _ k1
 | ws t ck n=>exact WSl.up h
 | wu t ck b=>obtain⟨n,hb,h⟩:=h;exact⟨n,hb,WSl.up h⟩
 | wp t ck o =>
  obtain⟨b,cur,i,rfl,h1,h2,h3⟩:=h
  exact⟨b,cur,i,by rw[sl7],dob7 h1,h2,by rw[sl7];exact h3⟩
 | junk=>trivial
 | _=>exact h
theorem zf7.up:∀{l:List AV}{vs:List Value},zf7 M H w l vs→zf7 (upM M) (upH H) w (upL l) vs
 | [],_,h=>h
 | _::_,_,⟨v,r,e,h1,h2⟩=>⟨v,r,e,h1.up,zf7.up h2⟩
mutual
theorem cd7.up:∀{x:RV}{v:Value},cd7 M H w x v→cd7 (upM M) (upH H) w (upR x) v
 | .c _,_,h=>Con.up h
 | .agg _,_,⟨vs,e,h⟩=>⟨vs,e,zf7.up h⟩
 | .fn _ _,_,⟨vs,e,h⟩=>⟨vs,e,zf7.up h⟩
 | .tup _,_,⟨vs,e,h⟩=>⟨vs,e,oe7.up h⟩
 | .ifc _ _,_,⟨u,e,h⟩=>⟨u,e,cd7.up h⟩
theorem oe7.up:∀{x:List RV}{vs:List Value},oe7 M H w x vs→oe7 (upM M) (upH H) w (vjc7 x) vs
 | [],_,h=>h
 | _::_,_,⟨v,r,e,h1,h2⟩=>⟨v,r,e,cd7.up h1,oe7.up h2⟩
end
theorem Rel.up (h:Rel E M H w):Rel E (upM M) (upH H) w:=by
 refine⟨h.bel,fun id fz t sz r hr=>?_,fun id fz t sz r hr=>?_,fun id t sz r hr=>?_,fun id t sz r hr=>?_,fun i j t s r t' s' r' hi hj he=>?_,h.rlt,h.src,⟨fun b q hq=>?_,fun b q id fz t sz r hq hr=>?_,fun b t ck hq=>?_⟩⟩
 ·obtain⟨r0,k1,rfl⟩:=ql7 hr;exact h.low _ _ _ _ _ k1
 ·obtain⟨r0,k1,rfl⟩:=ql7 hr
  obtain⟨cur,c1,c2,c3,c4,c5,c6⟩:=h.row _ _ _ _ _ k1
  refine⟨cur,c1,c2,by rw[abb7];exact c3,c4,by rw[kyb7];exact c5,fun i hi o ho2=>?_⟩
  rw[abb7]at hi
  obtain⟨v,q1,q2,q3⟩:=c6 i hi o ho2
  refine⟨v,q1,q2, ?_⟩
  unfold mn7 at q3 ⊢
  rw[zac7]
  cases r0 with
  | box l =>
   simp only[Row.isBox,if_true]at q3 ⊢
   show Con _ _ w (nth (upL l) o) v
   rw[tpb7]
   exact q3.up
  | own l =>
   simp only[Row.isBox,if_true]at q3 ⊢
   show Con _ _ w (nth ((l.map upL).getD i []) o) v
   rw[sec7,tpb7]
   exact q3.up
  | _=>exact q3
 ·obtain⟨r0,k1,rfl⟩:=ql7 hr;exact h.froz _ _ _ _ k1
 ·obtain⟨r0,k1,rfl⟩:=ql7 hr;exact h.thaw _ _ _ _ k1
 ·obtain⟨r0,k1,rfl⟩:=ql7 hi
  obtain⟨r1,k2,rfl⟩:=ql7 hj
  exact h.inj _ _ _ _ _ _ _ _ k1 k2 he
 ·obtain⟨q0,k1,rfl⟩:=whb7 hq;exact h.tau.new b q0 k1
 ·obtain⟨q0,k1,rfl⟩:=whb7 hq
  obtain⟨r0,k2,rfl⟩:=ql7 hr
  exact h.tau.row _ _ _ _ _ _ _ k1 k2
 ·obtain⟨q0,k1,e⟩:=whb7 hq
  cases e
  obtain⟨cur,c1,c2,c3,c4⟩:=h.tau.cells b q0.1 q0.2 k1
  refine⟨cur,c1,by rw[sl7];exact c2,by rw[sl7];exact c3,fun k hk=>?_⟩
  obtain⟨v,v1,v2⟩:=c4 k hk
  refine⟨v,v1,fun q hq2=>?_⟩
  rw[sl7]at hq2
  obtain⟨q1,k3,rfl⟩:=irb7 _ _ _ hq2
  exact (v2 _ k3).up
theorem jsb7:∀(tm:Tm) (t:Nat),lk (upT tm) t=((lk tm t).1,upR (lk tm t).2)
 | [],_=>rfl
 | (k,g,v)::l,t=>by
  simp only[upT,lk]
  split
  ·rfl
  ·exact jsb7 l t
def upS (σ:AS):AS:=⟨upT σ.tm,upH σ.H⟩
theorem St.up (h:St E nt M σ a w):St E nt (upM M) (upS σ) a w:=by
 refine⟨h.rel.up,fun t ht=>?_,fun t ht=>?_,h.sz,h.df⟩
 ·have ht:(lk (upT σ.tm) t).1=true:=ht
  show cd7 _ _ w (lk (upT σ.tm) t).2 _
  rw[jsb7]at ht ⊢
  exact (h.tms t ht).up
 ·have ht:(lk (upT σ.tm) t).1=false:=ht
  rw[jsb7]at ht
  exact h.off t ht
end
inductive Tr where
 | d (u:Bool)
 | no
 | br (w:Bool) (i:Nat) (t r:Tr)
inductive Pl where
 | a
 | s (p q:Pl)
 | c (p q:Pl)
 | b (p:Pl)
 | k (ks:List Nat) (p q:Pl)
 | t (lq:List Nat) (T:Tr) (r fins:List Nat)
def upIf:Bool→AS→AS
 | true,σ=>upS σ
 | false,σ=>σ
def keepS (ks:List Nat) (σ:AS):AS:=⟨fxT σ.tm ks,σ.H⟩
def puT:Bool→Pu
 | true=>none
 | false=>some none
section
variable (P:Program) (ty:Ty)
def qlb7 (ops:Array Oper) (r:List Nat):Tr→(AS→Prop)→AS→Prop
 | .d u,K,σ=>ox7 P ty r.length none ops (pick ops r) K (upIf u σ)
 | .no,_,_=>True
 | .br w i t q,K,σ=>kcb7 P ty (puT w) none ops σ (ops.getD i default) (qlb7 ops r t K)∧qlb7 ops r q K σ
def mvb7 (ops:Array Oper) (T:Tr) (r:List Nat):List Oper→(AS→Prop)→AS→Prop
 | [],K,σ=>qlb7 P ty ops r T K σ
 | o::l,K,σ=>kcb7 P ty (some none) none ops σ o (mvb7 ops T r l K)
def au7 (ord:Nat→List Nat×Nat×Option Nat):Pl→Code→(Exit→AS→Prop)→AS→Prop
 | .a,c,Q,σ=>awp P ty ord c Q σ
 | .s p q,.seq x y,Q,σ=>au7 ord p x (qm7 (au7 ord q y Q) Q) σ
 | .c p q,.cond x y z,Q,σ=>rbb7 (σ.rd x) (au7 ord p y Q σ) (au7 ord q z Q σ)
 | .b p,.block id x,Q,σ=>au7 ord p x (inB id Q) σ
 | .k ks p q,.seq x y,Q,σ=>∃R:AS→Prop,au7 ord p x (qm7 (fun σ'=>R (keepS ks σ')) Q) σ∧∀σ',R σ'→au7 ord q y Q σ'
 | .t lq T r _,.region _ ops true,Q,σ=>mvb7 P ty ops T r (pick ops lq) (Q .normal) σ
 | _,_,_,_=>False
end
def ezb7 (ops:Array Oper) (fins:List Nat):List Nat→Array Bool→Bool
 | [],listed=>(Region.ready .any ops listed).isEmpty
 | i::r,listed=>decide (Region.ready .any ops listed=[i])&&decide (i<ops.size)&&fins.contains i&&ezb7 ops fins r (listed.setIfInBounds i true)
def vkc7:Tr→Bool
 | .d _=>false
 | _=>true
def rzb7 (ops:Array Oper) (fins r:List Nat):Tr→Nat→Bool→List Nat→Array Bool→Bool
 | .d _,n,_,_,l=>decide (r.length=n)&&ezb7 ops fins r l
 | .no,n,_,al,l=>decide (0<n)&&decide (Region.ready .any ops l≠[])&&(Region.ready .any ops l).all (al.contains ·)
 | .br w i t q,n,dy,al,l=>decide (i<ops.size)&&(!w || dy || fins.contains i)&&vkc7 q&&rzb7 ops fins r t (n-1) (dy || w) [] (l.setIfInBounds i true)&&rzb7 ops fins r q n dy (i::al) l
def tjc7 (nt:Nat) (ops:Array Oper) (lq:List Nat) (T:Tr) (r:List Nat) (fins:List Nat):Bool :=
 seb7 nt ops&&Region.noSelect ops&&decide (lq.length≤ops.size)&&lq.all (fun i=>decide (i<ops.size)&&isV (ops.getD i default).op)&&match pt7 .any ops fins lq (Array.replicate ops.size false) with
  | some listed=>rzb7 ops fins r T (ops.size-lq.length) false [] listed
  | none=>false
def okD (nt:Nat) (ord:Nat→List Nat×Nat×Option Nat):Pl→Code→Bool
 | .a,c=>okC nt ord c
 | .s p q,.seq x y=>okD nt ord p x&&okD nt ord q y
 | .c p q,.cond _ x y=>okD nt ord p x&&okD nt ord q y
 | .b p,.block _ x=>okD nt ord p x
 | .k _ p q,.seq x y=>okD nt ord p x&&okD nt ord q y
 | .t lq T r fins,.region _ ops true=>tjc7 nt ops lq T r fins
 | _,_=>false
section
variable {P:Program} {ty:Ty} {E:Env} {nt:Nat} {M:Mp} {σ:AS} {a:Act} {w w0:World} {ops:Array Oper} {K:AS→Prop} {Q:Exit→Act→World→Prop} {fins r:List Nat}
theorem pib7 {i:Nat}{Kn:Act→World→Prop}(hi:i<ops.size) (h:if Region.wanted (ops.getD i default) (yielded ops a.tmps) then (ops.getD i default).wp P a w Kn Q else Kn (a.put (ops.getD i default).dst undef) w):wpOp P ops Q i Kn a w:=by
 have ho:ops[i]? = some (ops.getD i default):=by simp[Array.getD,hi]
 unfold wpOp
 rw[ho]
 show if Region.wanted (ops.getD i default) (yielded ops a.tmps) then _∨_ else _
 by_cases hw:Region.wanted (ops.getD i default) (yielded ops a.tmps)=true
 ·rw[if_pos hw]at h ⊢; exact .inl h
 ·rw[if_neg hw]at h ⊢; exact h
theorem dst_at (hd:seb7 nt ops=true) {i:Nat}(hi:i<ops.size):∀t,(ops.getD i default).dst=some t→t<nt :=
 ms7 hd _ (by simp[Array.getD,hi])
theorem St.upIf (h:St E nt M σ a w):∀u:Bool,∃M',St E nt M' (upIf u σ) a w
 | true=>⟨_,h.up⟩
 | false=>⟨_,h⟩
theorem St.keepS (h:St E nt M σ a w) (ks:List Nat):St E nt M (keepS ks σ) a w:=by
 refine⟨h.rel,fun t ht=>?_,fun t ht=>?_,h.sz,h.df⟩
 ·have ht:(lk (fxT σ.tm ks) t).1=true:=ht
  show cd7 M σ.H w (lk (fxT σ.tm ks) t).2 _
  rcases jv7 σ.tm ks t with ⟨-,e⟩ | ⟨-,e⟩
  ·rw[e]at ht ⊢; exact h.tms t ht
  ·rw[e];trivial
 ·have ht:(lk (fxT σ.tm ks) t).1=false:=ht
  rcases jv7 σ.tm ks t with ⟨-,e⟩ | ⟨-,e⟩
  ·rw[e]at ht;exact h.off t ht
  ·rw[e]at ht;cases ht
theorem fbb7 (hT:bj7 P ty) (hd:seb7 nt ops=true) (hQ:∀M σ a w,St E nt M σ a w→K σ→Q .normal a w) {nf:Nat}:∀(r:List Nat) {M:Mp}{σ:AS}{a:Act}{w:World}{l:Array Bool},St E nt M σ a w→ox7 P ty nf none ops (pick ops r) K σ→ezb7 ops fins r l=true→wpAny P .any ops Q r.length l a w
 | [],M,σ,a,w,l,h,hw,hc=>⟨by simpa[ezb7]using hc,hQ _ _ _ _ h hw⟩
 | i::r,M,σ,a,w,l,h,hw,hc=>by
  simp only[ezb7,Bool.and_eq_true,decide_eq_true_eq]at hc
  obtain⟨⟨⟨h1,h2⟩,h3⟩,h4⟩:=hc
  refine⟨fun h0=>(by rw[h1]at h0;cases h0),fun j hj=>?_⟩
  rw[h1,List.mem_singleton]at hj
  subst hj
  exact pib7 h2 (spb7 hT h (dst_at hd h2) (show kcb7 P ty _ none ops σ (ops.getD j default) (ox7 P ty nf none ops (pick ops r) K) from hw) fun M' σ' a' w' q1 _ _ q4=>fbb7 hT hd hQ r q1 q4 h4)
def nqb7 (P:Program) (ops:Array Oper) (Q:Exit→Act→World→Prop) (fins:List Nat) (w0:World) (dy:Bool) (n:Nat) (l:Array Bool) (a:Act) (w:World):Prop :=
 if dy then wpAny P .any ops Q n l a w else bh7 P .any ops Q (rj7 none w0) fins n l a w
theorem iib7 (hT:bj7 P ty) (hd:seb7 nt ops=true) (hQ:∀M σ a w,St E nt M σ a w→K σ→Q .normal a w):∀(T:Tr) {n:Nat}{dy:Bool}{al:List Nat}{l:Array Bool}{M:Mp}{σ:AS}{a:Act}{w:World},St E nt M σ a w→rzb7 ops fins r T n dy al l=true→qlb7 P ty ops r T K σ→(dy=false→rj7 none w0 w) →
  ((∃u,T = .d u)∧nqb7 P ops Q fins w0 dy n l a w)∨((0<n∧Region.ready .any ops l≠[])∧∀m,n=m+1→∀i∈Region.ready .any ops l,i∈al∨wpOp P ops Q i (fun a' w'=>if dy then wpAny P .any ops Q m (l.setIfInBounds i true) a' w' else (i∈fins∧wpAny P .any ops Q m (l.setIfInBounds i true) a' w')∨(rj7 none w0 w'∧bh7 P .any ops Q (rj7 none w0) fins m (l.setIfInBounds i true) a' w')) a w)
 | .d u,n,dy,al,l,M,σ,a,w,h,hc,hw,ho=>by
  obtain⟨M,h⟩:=h.upIf u
  simp only[rzb7,Bool.and_eq_true,decide_eq_true_eq]at hc
  obtain⟨rfl,hc⟩:=hc
  refine .inl ⟨⟨u,rfl⟩, ?_⟩
  unfold nqb7
  split
  ·exact fbb7 hT hd hQ r h hw hc
  ·cases r with
   | nil=>exact⟨by simpa[ezb7]using hc,hQ _ _ _ _ h hw⟩
   | cons i r =>
    simp only[ezb7,Bool.and_eq_true,decide_eq_true_eq]at hc
    obtain⟨⟨⟨h1,h2⟩,h3⟩,h4⟩:=hc
    refine⟨fun h0=>(by rw[h1]at h0;cases h0),fun j hj=>?_⟩
    rw[h1,List.mem_singleton]at hj
    subst hj
    exact pib7 h2 (spb7 hT h (dst_at hd h2) (show kcb7 P ty _ none ops (upIf u σ) (ops.getD j default) (ox7 P ty (j::r).length none ops (pick ops r) K) from hw) fun M' σ' a' w' q1 _ _ q4=>.inl ⟨by simpa using h3,fbb7 hT hd hQ r q1 q4 h4⟩)
 | .no,n,dy,al,l,M,σ,a,w,h,hc,hw,ho=>by
  simp only[rzb7,Bool.and_eq_true,decide_eq_true_eq,List.all_eq_true]at hc
  exact .inr ⟨hc.1,fun m _ i hi=>.inl (by simpa using hc.2 i hi)⟩
 | .br wr i t q,n,dy,al,l,M,σ,a,w,h,hc,hw,ho=>by
  simp only[rzb7,Bool.and_eq_true,decide_eq_true_eq]at hc
  obtain⟨⟨⟨⟨h1,h2⟩,h3⟩,h4⟩,h5⟩:=hc
  rcases iib7 hT hd hQ q h h5 hw.2 ho with ⟨⟨u,e⟩,-⟩ | ⟨k1,k2⟩
  ·subst e
   cases h3
  ·refine .inr ⟨k1,fun m hm j hj=>?_⟩
   rcases k2 m hm j hj with hj2 | hj2
   ·rcases List.mem_cons.1 hj2 with rfl | hj2
    ·refine .inr (pib7 h1 (spb7 hT h (dst_at hd h1) hw.1 fun M' σ' a' w' q1 q2 _ q4=>?_))
     have hold:dy=false→wr=false→rj7 none w0 w':=fun e1 e2=>by subst e2;exact (ho e1).step (q2 none rfl)
     have ih:=iib7 hT hd hQ t q1 h4 q4 (fun e=>by
      rw[Bool.or_eq_false_iff]at e
      exact hold e.1 e.2)
     have ih2:nqb7 P ops Q fins w0 (dy || wr) m (l.setIfInBounds j true) a' w':=by
      have e:n-1=m:=by omega
      rw[e]at ih
      rcases ih with ⟨-,ih⟩ | ⟨⟨g0,g1⟩,g2⟩
      ·exact ih
      ·unfold nqb7
       cases m with
       | zero=>omega
       | succ m =>
        split
        ·rename_i hdy
         refine⟨fun h0=>absurd h0 g1,fun i hi=>?_⟩
         have:=(g2 m rfl i hi).resolve_left (by simp)
         rw[hdy]at this
         simpa using this
        ·rename_i hdy
         refine⟨fun h0=>absurd h0 g1,fun i hi=>?_⟩
         have:=(g2 m rfl i hi).resolve_left (by simp)
         rw[Bool.eq_false_iff.2 hdy]at this
         simpa using this
     unfold nqb7 at ih2
     cases dy with
     | true=>simpa using ih2
     | false =>
      cases wr with
      | true=>exact .inl ⟨by simpa using h2,by simpa using ih2⟩
      | false=>exact .inr ⟨hold rfl rfl,by simpa using ih2⟩
    ·exact .inl hj2
   ·exact .inr hj2
theorem tfb7 (hT:bj7 P ty) (hd:seb7 nt ops=true) {T:Tr}:∀(lq:List Nat) {M:Mp}{σ:AS}{a:Act},St E nt M σ a w→(∀i∈lq,i<ops.size∧isV (ops.getD i default).op=true)→mvb7 P ty ops T r (pick ops lq) K σ →
  wpQuiet P ops (fun w'=>∃e:At (rj7 none w),w'=e.val) (fun a'=>∃M' σ',St E nt M' σ' a' w∧qlb7 P ty ops r T K σ') (lq.map fun j=>ops.getD j default) a
 | [],M,σ,a,h,_,hw=>⟨M,σ,h,hw⟩
 | i::lq,M,σ,a,h,hl,hw=>by
  obtain⟨h1,h2⟩:=hl i (List.mem_cons_self ..)
  have hw':ssb7 ty (guardOf σ.tm ops (ops.getD i default).guard) none σ (ops.getD i default) (mvb7 P ty ops T r (pick ops lq) K):=by
   have:kcb7 P ty _ none ops σ (ops.getD i default) _:=hw
   unfold kcb7 at this
   rw[if_pos h2]at this
   exact this
  obtain⟨σ',v,k1,k2,k3,k4,k5⟩:=rnb7 hT h h2 (dst_at hd h1) hw'
  have ih:=tfb7 hT hd lq k3 (fun j hj=>hl j (List.mem_cons_of_mem _ hj)) k1
  simp only[List.map_cons]
  unfold wpQuiet
  by_cases hwt:Region.wanted (ops.getD i default) (yielded ops a.tmps)=true
  ·rw[if_pos hwt]
   refine⟨v, ?_,ih⟩
   rintro w1 ⟨e,rfl⟩
   unfold Oper.quietAt
   rw[k4 hwt e.val e.ok]
   exact⟨rfl,rfl⟩
  ·rw[if_neg hwt]
   rw[k5 (by simpa using hwt)]at ih
   exact ih
theorem ayb7 (hT:bj7 P ty) (hm:P.follows .mixedOrders=true) {id:Nat}{lq:List Nat}{T:Tr}(hB:tjc7 nt ops lq T r fins=true) (h:St E nt M σ a w) (hw:mvb7 P ty ops T r (pick ops lq) K σ) (hQ:∀M σ a w,St E nt M σ a w→K σ→Q .normal a w) (hQp:∀c a w,¬Q (.panic c) a w):(Code.region id ops true).wp P Q a w:=by
 unfold tjc7 at hB
 simp only[Bool.and_eq_true,decide_eq_true_eq,List.all_eq_true]at hB
 obtain⟨⟨⟨⟨b1,b2⟩,b3⟩,b4⟩,b5⟩:=hB
 split at b5
 case h_2=>cases b5
 rename_i listed hq
 have hb:Below w.heap.size w w.drew:=(Below.refl _ _).drew
 have h2:St E nt M σ a w.drew:=⟨h.rel.below hb,fun t ht=>(Kp.below h.rel hb).R (h.tms t ht),h.off,h.sz,h.df⟩
 refine wp_region_any hm (al7 (S:=rj7 none w.drew) (fins:=fins) _ _ _ _ ?_)
 rw[show ops.size=lq.length+(ops.size-lq.length) by omega]
 refine ym7 b2 (fun c a d v w hh=>(hQp _ _ _ hh).elim) (rj7.refl _ _) lq _ listed a (fun j oj _ hl=>by rw[getD_replicate_false]at hl;cases hl) (by rw[show lq.length+(ops.size-lq.length)=ops.size by omega];exact hq) (tfb7 hT b1 lq h2 b4 hw) fun a' _ ⟨M',σ',q1,q2⟩=>?_
 rcases iib7 (w0:=w.drew) hT b1 hQ T q1 b5 q2 (fun _=>rj7.refl _ _) with ⟨-,h⟩ | ⟨⟨g0,g1⟩,g2⟩
 ·exact h
 ·obtain⟨m,hm⟩:∃m,ops.size-lq.length=m+1:=⟨ops.size-lq.length-1,by omega⟩
  rw[hm]
  exact⟨fun h0=>absurd h0 g1,fun i hi=>(g2 m hm i hi).resolve_left (by simp)⟩
theorem ml7 (hT:bj7 P ty) (hm:P.follows .mixedOrders=true) {ord:Nat→List Nat×Nat×Option Nat}:∀(p:Pl) (c:Code),okD nt ord p c=true→∀{Q:Exit→AS→Prop}{M:Mp}{σ:AS}{a:Act}{w:World},St E nt M σ a w→au7 P ty ord p c Q σ →
  c.wp P (fun e a' w'=>(∀ch,e ≠ .panic ch)∧∃M' σ',St E nt M' σ' a' w'∧Q e σ') a w
 | .a,c,hc,Q,M,σ,a,w,h,hw=>wp_mono (so7 hT hm c hc h hw) fun e a1 w1 ⟨hp,M1,σ1,q1,q2,q3⟩=>⟨hp,M1,σ1,q1,q3⟩
 | .s p q,c,hc,Q,M,σ,a,w,h,hw=>by
  cases c with
  | seq x y =>
   simp only[okD,Bool.and_eq_true]at hc
   refine wp_seq (wp_mono (ml7 hT hm p x hc.1 h (Q:=qm7 (au7 P ty ord q y Q) Q) hw) fun e a1 w1 ⟨hp,M1,σ1,q1,q3⟩=>?_)
   cases e with
   | normal=>exact ml7 hT hm q y hc.2 q1 q3
   | panic ch=>exact absurd rfl (hp ch)
   | exit id=>exact⟨hp,M1,σ1,q1,q3⟩
   | goto l=>exact⟨hp,M1,σ1,q1,q3⟩
   | ret=>exact⟨hp,M1,σ1,q1,q3⟩
   | outgrown=>exact⟨hp,M1,σ1,q1,q3⟩
  | _=>exact Bool.noConfusion hc
 | .c p q,c,hc,Q,M,σ,a,w,h,hw=>by
  cases c with
  | cond x y z =>
   simp only[okD,Bool.and_eq_true]at hc
   have hw':rbb7 (σ.rd x) (au7 P ty ord p y Q σ) (au7 P ty ord q z Q σ):=hw
   unfold rbb7 at hw'
   split at hw'
   ·rename_i b hb
    have hv:=h.rd (x:=x) (by rw[hb])
    rw[hb]at hv
    have hv':a.eval x = .bool b:=hv
    refine wp_cond hv' ?_
    cases b with
    | true=>exact ml7 hT hm p y hc.1 h (hw'.1 rfl)
    | false=>exact ml7 hT hm q z hc.2 h (hw'.2 rfl)
   ·exact hw'.elim
  | _=>exact Bool.noConfusion hc
 | .b p,c,hc,Q,M,σ,a,w,h,hw=>by
  cases c with
  | block id x =>
   refine wp_block (wp_mono (ml7 hT hm p x hc h (Q:=inB id Q) hw) fun e a1 w1 ⟨hp,M1,σ1,q1,q3⟩=>?_)
   cases e with
   | exit j =>
    simp only[Exit.inBlock]
    simp only[inB]at q3
    split
    ·rename_i e;rw[if_pos e]at q3;exact⟨fun _ e=>(by cases e),M1,σ1,q1,q3⟩
    ·rename_i e;rw[if_neg e]at q3;exact⟨hp,M1,σ1,q1,q3⟩
   | normal=>exact⟨hp,M1,σ1,q1,q3⟩
   | panic ch=>exact absurd rfl (hp ch)
   | goto l=>exact⟨hp,M1,σ1,q1,q3⟩
   | ret=>exact⟨hp,M1,σ1,q1,q3⟩
   | outgrown=>exact⟨hp,M1,σ1,q1,q3⟩
  | _=>exact Bool.noConfusion hc
 | .k ks p q,c,hc,Q,M,σ,a,w,h,hw=>by
  cases c with
  | seq x y =>
   simp only[okD,Bool.and_eq_true]at hc
   obtain⟨R,h1,h2⟩:=hw
   refine wp_seq (wp_mono (ml7 hT hm p x hc.1 h h1) fun e a1 w1 ⟨hp,M1,σ1,q1,q3⟩=>?_)
   cases e with
   | normal=>exact ml7 hT hm q y hc.2 (q1.keepS ks) (h2 _ q3)
   | panic ch=>exact absurd rfl (hp ch)
   | exit id=>exact⟨hp,M1,σ1,q1,q3⟩
   | goto l=>exact⟨hp,M1,σ1,q1,q3⟩
   | ret=>exact⟨hp,M1,σ1,q1,q3⟩
   | outgrown=>exact⟨hp,M1,σ1,q1,q3⟩
  | _=>exact Bool.noConfusion hc
 | .t lq T r fins,c,hc,Q,M,σ,a,w,h,hw=>by
  cases c with
  | region id ops dr =>
   cases dr with
   | false=>exact Bool.noConfusion hc
   | true=>exact ayb7 hT hm hc h hw (fun M σ a w q1 q2=>⟨fun _ e=>(by cases e),M,σ,q1,q2⟩) fun c a w hh=>hh.1 c rfl
  | _=>exact Bool.noConfusion hc
section
variable {ord:Nat→List Nat×Nat×Option Nat} {Q:Exit→AS→Prop} {p q:Pl}
theorem zlb7 {c:Code}:au7 P ty ord .a c Q σ=awp P ty ord c Q σ:=by cases c <;> rfl
theorem tmb7 {x y:Code}:au7 P ty ord (.s p q) (.seq x y) Q σ=au7 P ty ord p x (qm7 (au7 P ty ord q y Q) Q) σ:=rfl
theorem kqb7 {x:Operand}{y z:Code}:au7 P ty ord (.c p q) (.cond x y z) Q σ=rbb7 (σ.rd x) (au7 P ty ord p y Q σ) (au7 P ty ord q z Q σ):=rfl
theorem job7 {id:Nat}{x:Code}:au7 P ty ord (.b p) (.block id x) Q σ=au7 P ty ord p x (inB id Q) σ:=rfl
theorem rjb7 {lq:List Nat}{T:Tr}{id:Nat}:au7 P ty ord (.t lq T r fins) (.region id ops true) Q σ=mvb7 P ty ops T r (pick ops lq) (Q .normal) σ:=rfl
theorem ehc7 {T:Tr}:mvb7 P ty ops T r [] K σ=qlb7 P ty ops r T K σ:=rfl
theorem tgc7 {T:Tr}{o:Oper}{l:List Oper}:mvb7 P ty ops T r (o::l) K σ=kcb7 P ty (some none) none ops σ o (mvb7 P ty ops T r l K):=rfl
theorem qhc7:qlb7 P ty ops r (.d false) K σ=ox7 P ty r.length none ops (pick ops r) K σ:=rfl
theorem olc7:qlb7 P ty ops r (.d true) K σ=ox7 P ty r.length none ops (pick ops r) K (upS σ):=rfl
theorem xhc7 {ks:List Nat}{x y:Code}(R:AS→Prop) (h1:au7 P ty ord p x (qm7 (fun σ'=>R (keepS ks σ')) Q) σ) (h2:∀σ',R σ'→au7 P ty ord q y Q σ'):au7 P ty ord (.k ks p q) (.seq x y) Q σ:=⟨R,h1,h2⟩
theorem mwb7 {ks:List Nat}{tm:Tm}{H:List Root}:keepS ks ⟨tm,H⟩=⟨fxT tm ks,H⟩:=rfl
theorem jvb7:qlb7 P ty ops r .no K σ=True:=rfl
theorem ahc7 {wr:Bool}{i:Nat}{t q:Tr}:qlb7 P ty ops r (.br wr i t q) K σ=(kcb7 P ty (puT wr) none ops σ (opD ops.toList i) (qlb7 P ty ops r t K)∧qlb7 P ty ops r q K σ):=by
 simp[qlb7,qsb7,List.getD_eq_getElem?_getD,Array.getD_eq_getD_getElem?]
theorem glc7:isW (puT true)=True:=rfl
theorem u_S {tm:Tm}{H:List Root}:upS ⟨tm,H⟩=⟨upT tm,upH H⟩:=rfl
theorem elc7:upT []=[]:=rfl
theorem flc7 {k:Nat}{g:Bool}{v:RV}{l:Tm}:upT ((k,g,v)::l)=(k,g,upR v)::upT l:=rfl
theorem llc7:upH []=[]:=rfl
theorem clc7 {l:List Root}:upH (.dead::l) = .dead::upH l:=rfl
theorem qlc7 {l:List Root}{fz:Bool}{t:TypeId}{sz:Nat}{m:List AV}:upH (.live fz t sz (.box m)::l) = .live fz t sz (.box (upL m))::upH l:=rfl
theorem rkc7:upL []=[]:=rfl
theorem okc7 {x:AV}{l:List AV}:upL (x::l)=upA x::upL l:=rfl
theorem u_c {x:AV}:upR (.c x) = .c (upA x):=rfl
theorem u_a {l:List AV}:upR (.agg l) = .agg (upL l):=rfl
theorem u_f {f:FuncId}{l:List AV}:upR (.fn f l) = .fn f (upL l):=rfl
theorem khc7 {k:IntKind}{n:Int}:upA (.int k n) = .int k n:=rfl
theorem gdc7 {b:Bool}:upA (.bool b) = .bool b:=rfl
theorem edc7:upA .nils = .nils:=rfl
theorem rdc7:upA .junk = .junk:=rfl
theorem ojc7 {id n i o:Nat}:upA (.ptr id n i o) = .ptr id n i o:=rfl
theorem u_h {id st len:Nat}:upA (.h id st len) = .h id st len:=rfl
theorem nkc7 {n sz:Nat}{f:Nat→Nat→AV}:upA (.sl n sz f) = .sl n sz f:=rfl
theorem tkc7 {n:Nat}{f:Nat→AV}:upA (.rp n f) = .rp n f:=rfl
theorem nlc7 {t:TypeId}{ck:List CK}{n:Nat}:upA (.ws t ck n) = .ws t (upK.upKs ck) n:=rfl
theorem dlc7 {t:TypeId}{ck:List CK}{n:Nat}:upA (.wu t ck n) = .wu t (upK.upKs ck) n:=rfl
theorem hkc7 {t:TypeId}{ck:List CK}{n:Nat}:upA (.wp t ck n) = .wp t (upK.upKs ck) n:=rfl
end
theorem qpb7 (d : Nat) (p : Pl) (hT : bj7 P ty) (hm : P.follows .mixedOrders = true) {f : FuncId} {fn : Func} {c : Code} (ord : Nat → List Nat × Nat × Option Nat) (hf : P.funcs[f]? = some fn) (hb : fn.body = some c) (hname : (fn.name == "runtime.NumGoroutine") = false) {n : Nat} (hnt : fn.ntmps = n) {rs : List ResultVar} (hr : fn.results.toList = rs)
  (hok:okD n ord p c=true) {args:List RV} (hn:args.length≤n) {post:RV→Prop}
  (h:au7 P ty ord p c (gec7 ty rs (sic7 d post)) ⟨qmb7 0 args,[]⟩):PCall P f args post:=by
 refine⟨⟨fn,c,hf,hname,hb⟩,fun rho w vs hgl hrho hc=>calls_of_wp hf hb ?_⟩
 have hrel:Rel ⟨w,rho⟩ ⟨fun _=>0,fun _=>0,rho,fun _=>none⟩ [] w:=⟨Below.refl _ _,fun _ _ _ _ _ h=>(by cases h),fun _ _ _ _ _ h=>(by cases h),fun _ _ _ _ h=>(by cases h),fun _ _ _ _ h=>(by cases h),fun _ _ _ _ _ _ _ _ h=>(by cases h),hrho,⟨fun b hb=>.inl hb,hgl⟩,⟨fun _ _ h=>(by cases h),fun _ _ _ _ _ _ _ h=>(by cases h),fun _ _ _ h=>(by cases h)⟩⟩
 have hst:=St.enter hrel (Con0RL.up (M:=⟨fun _=>0,fun _=>0,rho,fun _=>none⟩) (H:=[]) hc) (n:=n) hn
 rw[hnt]
 refine wp_mono (ml7 hT hm p c hok hst h) fun e a' w' ⟨hp,M',σ',q1,q3⟩=>?_
 have fin:(vu7 ty σ' rs).1∧sic7 d post (one (vu7 ty σ' rs).2) σ'.H→a'.defers=[]∧∃v,(results fn a'.tmps).run P w' = .ok v w'∧∃r v' rho',Ending.returned v = .returned v'∧post r∧ck7 rho' w' r v'∧(∀b,rho' b→rho b∨(w.heap.size≤b∧b<w'.heap.size))∧Below w.heap.size w w':=by
  rintro⟨h1,l,h2,h3,h4⟩
  obtain⟨v,k1,k2⟩:=xs7 hT q1 hr h1
  rw[h2]at k1
  obtain⟨us,rfl,k1⟩:=k1
  obtain⟨l',l1,l2⟩:=geb7 (rho:=fun b=>M'.rho b∨∃q,M'.tau b=some q) q1.rel.tau (fun b q hq=>.inr ⟨q,hq⟩) h3 k1
  obtain⟨m,m1,m2⟩:=h4 l' l1
  refine⟨q1.df,_,k2,.agg m,_,_,rfl,m2,⟨us,rfl,l2.eqv m1⟩,fun b hb=>?_,q1.rel.bel⟩
  rcases hb with hb | ⟨q,hq⟩
  ·rcases q1.rel.src.1 b hb with h | h
   ·exact .inl h
   ·exact .inr ⟨h,q1.rel.rlt b hb⟩
  ·exact .inr ⟨(q1.rel.tau.new b q hq).1,q1.rel.tau.lt hq⟩
 cases e with
 | normal=>exact fin q3
 | ret=>exact fin q3
 | panic ch=>exact absurd rfl (hp ch)
 | exit id=>exact q3.elim
 | goto l=>exact q3.elim
 | outgrown=>exact q3.elim
theorem onb7 (p : Pl) (hT : bj7 P ty) (hm : P.follows .mixedOrders = true) {f : FuncId} {fn : Func} {c : Code} (ord : Nat → List Nat × Nat × Option Nat) (hf : P.funcs[f]? = some fn) (hb : fn.body = some c) (hname : (fn.name == "runtime.NumGoroutine") = false) {n : Nat} (hnt : fn.ntmps = n) {rs : List ResultVar} (hr : fn.results.toList = rs)
  (hok:okD n ord p c=true) {args:List RV} (hn:args.length≤n) {post:RV→Prop}
  (h:au7 P ty ord p c (gec7 ty rs (bjc7 post)) ⟨qmb7 0 args,[]⟩):PCall P f args post:=by
 refine⟨⟨fn,c,hf,hname,hb⟩,fun rho w vs hgl hrho hc=>calls_of_wp hf hb ?_⟩
 have hrel:Rel ⟨w,rho⟩ ⟨fun _=>0,fun _=>0,rho,fun _=>none⟩ [] w:=⟨Below.refl _ _,fun _ _ _ _ _ h=>(by cases h),fun _ _ _ _ _ h=>(by cases h),fun _ _ _ _ h=>(by cases h),fun _ _ _ _ h=>(by cases h),fun _ _ _ _ _ _ _ _ h=>(by cases h),hrho,⟨fun b hb=>.inl hb,hgl⟩,⟨fun _ _ h=>(by cases h),fun _ _ _ _ _ _ _ h=>(by cases h),fun _ _ _ h=>(by cases h)⟩⟩
 have hst:=St.enter hrel (Con0RL.up (M:=⟨fun _=>0,fun _=>0,rho,fun _=>none⟩) (H:=[]) hc) (n:=n) hn
 rw[hnt]
 refine wp_mono (ml7 hT hm p c hok hst h) fun e a' w' ⟨hp,M',σ',q1,q3⟩=>?_
 have fin:(vu7 ty σ' rs).1∧(okT σ'.H (one (vu7 ty σ' rs).2)∧∃r',zxb7 (zcc7 σ'.H (one (vu7 ty σ' rs).2)) r'∧post r')→a'.defers=[]∧∃v,(results fn a'.tmps).run P w' = .ok v w'∧∃r v' rho',Ending.returned v = .returned v'∧post r∧ck7 rho' w' r v'∧(∀b,rho' b→rho b∨(w.heap.size≤b∧b<w'.heap.size))∧Below w.heap.size w w':=by
  rintro⟨h1,h2,r',h3,h4⟩
  obtain⟨v,k1,k2⟩:=xs7 hT q1 hr h1
  obtain⟨M2,H2,k3,k4⟩:=erb7 q1.rel h2 k1
  refine⟨q1.df,v,k2,r',v,M2.rho,rfl,h4,k4.eqv h3,fun b hb=>?_,q1.rel.bel⟩
  rcases k3.src.1 b hb with h | h
  ·exact .inl h
  ·exact .inr ⟨h,k3.rlt b hb⟩
 cases e with
 | normal=>exact fin q3
 | ret=>exact fin q3
 | panic ch=>exact absurd rfl (hp ch)
 | exit id=>exact q3.elim
 | goto l=>exact q3.elim
 | outgrown=>exact q3.elim
end
def wkM (b t:Nat):Option (List CK):=if t=2 then some ckI else if t=78 then some (vgc7 b) else if t=136 then some (ugc7 b) else none
def tyW (b:Nat):Ty:=fun t=>⟨(ty t).sz,(ty t).bytes,(ty t).k,(ty t).zero,wkM b t⟩
theorem ih7 (b t:Nat):(tyW b t).sz=(ty t).sz:=rfl
theorem wb7 (b t:Nat):(tyW b t).bytes=(ty t).bytes:=rfl
theorem zl7 (b t:Nat):(tyW b t).k=(ty t).k:=rfl
theorem sc7 (b t:Nat):(tyW b t).zero=(ty t).zero:=rfl
theorem ug7 (b t:Nat):(tyW b t).wk=wkM b t:=rfl
theorem cec7 (b:Nat):bj7 Tryz.prog (tyW b):=fun t=>⟨by
 have:=(ko7 t).k
 show kOk _ (tyW b) t (ty t).k
 cases hq:(ty t).k <;> rw[hq]at this <;> exact this,(ko7 t).i⟩
def bec7:Tr:=.br false 0 (.br false 1 (.br false 7 (.br true 8 (.d true) .no) .no) (.br false 7 (.br false 1 (.br true 8 (.d true) .no) (.br true 8 (.br false 1 (.d true) .no) .no)) .no)) (.br false 7 (.br false 0 (.br false 1 (.br true 8 (.d true) .no) (.br true 8 (.br false 1 (.d true) .no) .no)) (.br true 8 (.br false 0 (.br false 1 (.d true) .no) .no) .no)) .no)
def bcc7:Pl:=.s .a (.s .a (.s .a (.s .a (.s .a (.s .a (.s (.s .a (.b (.s .a (.c .a (.s .a (.c .a (.s .a (.c (.s .a (.c (.t [2,3,4,5,6] bec7 [9,10,11] [8,9,10,11]) .a)) .a)))))))) .a))))))
def wsH (t:TypeId) (ck:List CK):Nat→AV
 | 0=>.nils
 | n+1=>.ws t ck (n+1)
theorem cp7 (t:TypeId) (ck:List CK):wsH t ck 0 = .nils:=rfl
theorem fp7 (t:TypeId) (ck:List CK) (n:Nat):wsH t ck (n+1) = .ws t ck (n+1):=rfl
theorem eeb7 (t:TypeId) (ck:List CK) (n k:Nat):(wsH t ck n).scp k=true:=by cases n <;> rfl
structure ffb7 (l:List Int) (what:Int):Prop where
 b:∀v∈l,-128≤v∧v≤127
 len:l.length≤9223372036854775807
 w:0≤what∧what≤255
structure bkc7 (t:tb7):Prop where
 tl:t.trucks.length≤100000
 bl:t.bikes.length≤100000
 tr:∀l∈t.trucks,l.length≤100000∧∀v∈l,0≤v∧v≤1000000000000000
 bk:∀r∈t.bikes,r.starts.length≤100000∧(0≤r.out∧r.out≤1000000000000000)∧(0≤r.back∧r.back≤1000000000000000)∧∀v∈r.starts,0≤v∧v≤1000000000000000
def pm7 (t:tb7) (l:List Int) (what:Int) (n:Nat) (a b:AV):List Root :=
 [.live false 41 2 (.box (zb7 t)),.live false 32 2 (.box [eI8 l,.int .u8 what]),.live false 41 2 (.box [.nils,.nils]),.live false 3 1 (.box [I6 n]),.live false 41 2 (.box [a,b])]
theorem hq7 {l:List Int}(h:∀v∈l,-128≤v∧v≤127) (n:Int):-128≤fy7 l n∧fy7 l n≤127:=by
 unfold fy7
 split
 ·omega
 ·exact h _ (fh7 (Nat.mod_lt _ (by omega)) 0)
theorem jac7 {t:tb7}{l:List Int}{what:Int}(ht:bkc7 t) (hs:ffb7 l what):PCall Tryz.prog 25 [.agg (zb7 t),.agg [eI8 l,.int .u8 what]] nfb7:=by
 have htl:=ht.tl;have hbl:=ht.bl
 refine qpb7 1 bcc7 (cec7 200000) (by kernel_rfl) (fun n=>match n with | 22=>([],3,some 3) | _=>([],0,none)) Tryz.func25 rfl (by kernel_rfl) Tryz.ntmps25 (congrArg Array.toList Tryz.results25) (by kernel_rfl) (by simp) ?_
 simp -implicitDefEqProofs only [go_sem,bcc7,zlb7,tmb7,kqb7,job7,rjb7,zb7,ih7,wb7,zl7,sc7,ug7,wkM]
 refine ie7 (ι:=Nat×Nat) [2,3,4,6,7,20,21] [22] (fun s=>s.1≤t.trucks.length∧s.2≤s.1*100000) (fun s=>[.c (I6 s.1)]) (fun s=>pm7 t l what s.2 (wsH 78 ckT s.1) .nils) (fun s=>t.trucks.length-s.1) (by kernel_rfl) ⟨(0,0),⟨Nat.zero_le _,Nat.le_refl _⟩,rfl,rfl⟩ (fun s _=>⟨rfl,rfl,by simp only[pm7,zb7,mab7,xeb7,eeb7];rfl,rfl⟩) ?_
 rintro⟨k,m⟩ ⟨hk,hm⟩
 simp only[]at hk hm
 simp -implicitDefEqProofs only [go_sem,zlb7,tmb7,kqb7,job7,rjb7,pm7,zb7,ih7,wb7,zl7,sc7,ug7,wkM]
 refine⟨fun h=>?_,fun h=>?_⟩
 ·have hlt:k<t.trucks.length:=by omega
  obtain⟨hl1,hl2⟩:=ht.tr _ (fh7 hlt [])
  have hl1:(fs7 t k).length≤100000:=hl1
  refine⟨by omega, ?_⟩
  refine ie7 (ι:=Nat) [2,3,4,6,7,20,21,22,26,27] [10,28] (fun j=>j≤(fs7 t k).length) (fun j=>[.c (wsH 2 ckI j),.c (I6 j)]) (fun j=>pm7 t l what (m+j) (wsH 78 ckT k) .nils) (fun j=>(fs7 t k).length-j) (by kernel_rfl) ⟨0,Nat.zero_le _,rfl,rfl⟩ (fun s _=>⟨rfl,by simp only[ey7,lbc7,eeb7];rfl,by simp only[pm7,zb7,mab7,xeb7,eeb7];rfl,rfl⟩) ?_
  intro j hj
  have hxv:j<(fs7 t k).length→0≤(fs7 t k).getD j 0∧(fs7 t k).getD j 0≤1000000000000000:=fun hj=>hl2 _ (fh7 hj 0)
  have had:=hq7 hs.b ((m+j:Nat):Int)
  rcases j with _ | j <;> rcases k with _ | k
  all_goals
   simp -implicitDefEqProofs only [go_sem,zlb7,tmb7,kqb7,job7,rjb7,pm7,zb7,ih7,wb7,zl7,sc7,ug7,wkM,cp7,fp7]
   refine⟨fun h2=>?_,fun h2=>?_⟩
  ·have hx:=hxv (by omega)
   have had:=hq7 hs.b (m:Int)
   refine⟨by omega, ?_⟩
   refine yk7 (l:=l) (what:=what) (kn:=3) (ks:=1) (n:=((m+0:Nat):Int)) (.inl rfl) rfl rfl (by decide) hs.b hs.len (by omega) (by omega) ?_
   simp -implicitDefEqProofs only [go_sem,zlb7,tmb7,kqb7,job7,rjb7,pm7,zb7,ih7,wb7,zl7,sc7,ug7,wkM,cp7,fp7]
   exact⟨by omega,by omega,1,by omega,rfl,rfl,by omega⟩
  ·exact⟨by omega,(1,m),⟨by omega,by (try simp only[]);omega⟩,rfl,rfl,by simp only[];omega⟩
  ·have hx:=hxv (by omega)
   have had:=hq7 hs.b (m:Int)
   refine⟨by omega, ?_⟩
   refine yk7 (l:=l) (what:=what) (kn:=3) (ks:=1) (n:=((m+0:Nat):Int)) (.inl rfl) rfl rfl (by decide) hs.b hs.len (by omega) (by omega) ?_
   simp -implicitDefEqProofs only [go_sem,zlb7,tmb7,kqb7,job7,rjb7,pm7,zb7,ih7,wb7,zl7,sc7,ug7,wkM,cp7,fp7]
   exact⟨by omega,by omega,1,by omega,rfl,rfl,by omega⟩
  ·exact⟨by omega,by omega,(k+2,m),⟨by omega,Nat.le_trans hm (Nat.mul_le_mul_right _ (by omega))⟩,rfl,rfl,by simp only[];omega⟩
  ·have hx:=hxv (by omega)
   refine⟨by omega, ?_⟩
   refine yk7 (l:=l) (what:=what) (kn:=3) (ks:=1) (n:=((m+(j+1):Nat):Int)) (.inl rfl) rfl rfl (by decide) hs.b hs.len (by omega) (by omega) ?_
   simp -implicitDefEqProofs only [go_sem,zlb7,tmb7,kqb7,job7,rjb7,pm7,zb7,ih7,wb7,zl7,sc7,ug7,wkM,cp7,fp7]
   exact⟨by omega,by omega,by omega,j+2,by omega,rfl,rfl,by omega⟩
  ·exact⟨by omega,by omega,(1,m+(j+1)),⟨by omega,by (try simp only[]);omega⟩,rfl,rfl,by simp only[];omega⟩
  ·have hx:=hxv (by omega)
   refine⟨by omega, ?_⟩
   refine yk7 (l:=l) (what:=what) (kn:=3) (ks:=1) (n:=((m+(j+1):Nat):Int)) (.inl rfl) rfl rfl (by decide) hs.b hs.len (by omega) (by omega) ?_
   simp -implicitDefEqProofs only [go_sem,zlb7,tmb7,kqb7,job7,rjb7,pm7,zb7,ih7,wb7,zl7,sc7,ug7,wkM,cp7,fp7]
   exact⟨by omega,by omega,by omega,j+2,by omega,rfl,rfl,by omega⟩
  ·exact⟨by omega,by omega,by omega,(k+2,m+(j+1)),⟨by omega,by (try simp only[]);omega⟩,rfl,rfl,by simp only[];omega⟩
 ·obtain rfl:k=t.trucks.length:=by omega
  clear hk h
  refine ie7 (ι:=Nat×Nat) [3,4,6,7,47,48] [49] (fun s=>s.1≤t.bikes.length∧s.2≤10000000000+s.1*100002) (fun s=>[.c (I6 s.1)]) (fun s=>pm7 t l what s.2 (wsH 78 ckT t.trucks.length) (wsH 136 ckR s.1)) (fun s=>t.bikes.length-s.1) (by kernel_rfl) ⟨(0,m),⟨Nat.zero_le _,by simp only[];omega⟩,rfl,rfl⟩ (fun s _=>⟨rfl,rfl,by simp only[pm7,zb7,mab7,xeb7,eeb7];rfl,rfl⟩) ?_
  clear hm
  rintro⟨k,m⟩ ⟨hk,hm⟩
  simp only[]at hk hm
  simp -implicitDefEqProofs only [go_sem,zlb7,tmb7,kqb7,job7,rjb7,pm7,zb7,ih7,wb7,zl7,sc7,ug7,wkM]
  refine⟨fun h=>?_,fun h=>?_⟩
  ·have hlt:k<t.bikes.length:=by omega
   obtain⟨hr1,hr2,hr3,hr4⟩:=ht.bk _ (fh7 hlt ⟨0,[],0⟩)
   have hr1:(fi7 t k).starts.length≤100000:=hr1
   have hr2:0≤(fi7 t k).out∧(fi7 t k).out≤1000000000000000:=hr2
   have hr3:0≤(fi7 t k).back∧(fi7 t k).back≤1000000000000000:=hr3
   have had:=hq7 hs.b (m:Int)
   refine⟨by omega, ?_⟩
   refine yk7 (l:=l) (what:=what) (kn:=3) (ks:=1) (n:=(m:Int)) (.inl rfl) rfl rfl (by decide) hs.b hs.len (by omega) (by omega) ?_
   generalize hv0:(fi7 t k).out+fy7 l (m:Int)=v0
   simp -implicitDefEqProofs only [go_sem,zlb7,tmb7,kqb7,job7,rjb7,pm7,zb7,ih7,wb7,zl7,sc7,ug7,wkM]
   refine ie7 (ι:=Nat) [3,4,6,7,14,15,47,48,49,59,60] [61] (fun j=>j≤(fi7 t k).starts.length) (fun j=>[.c (I6 j)]) (fun j=>pm7 t l what (m+1+j) (wsH 78 ckT t.trucks.length) (wsH 136 ckR k)++[.live false 136 3 (.box [I6 (fi7 t k).out,ye7 (fi7 t k).starts,I6 (fi7 t k).back]),.live false 136 3 (.box [I6 v0,wsH 2 ckI j,I6 0])]) (fun j=>(fi7 t k).starts.length-j) (by kernel_rfl) ⟨0,Nat.zero_le _,rfl,rfl⟩ (fun s _=>⟨rfl,rfl,by simp only[pm7,zb7,List.cons_append,List.nil_append,mab7,xeb7,eeb7];rfl,rfl⟩) ?_
   intro j hj
   have hxv:j<(fi7 t k).starts.length→0≤(fi7 t k).starts.getD j 0∧(fi7 t k).starts.getD j 0≤1000000000000000:=fun hj=>hr4 _ (fh7 hj 0)
   have had1:=hq7 hs.b ((m+1+j:Nat):Int)
   rcases j with _ | j <;> rcases k with _ | k
   all_goals
    simp -implicitDefEqProofs only [go_sem,zlb7,tmb7,kqb7,job7,rjb7,pm7,zb7,ih7,wb7,zl7,sc7,ug7,wkM,cp7,fp7]
    refine⟨fun h2=>?_,fun h2=>?_⟩
   ·have hx:=hxv (by omega)
    simp only[Nat.add_zero]at had1
    refine⟨by omega, ?_⟩
    refine yk7 (l:=l) (what:=what) (kn:=3) (ks:=1) (n:=((m+1+0:Nat):Int)) (.inr rfl) rfl rfl (by decide) hs.b hs.len (by omega) (by omega) ?_
    simp -implicitDefEqProofs only [go_sem,ih7,wb7,zl7,sc7,ug7,wkM,cp7,fp7]
    exact⟨by omega,by omega,1,by omega,rfl,rfl,by omega⟩
   ·simp only[Nat.add_zero]at had1
    refine yk7 (l:=l) (what:=what) (kn:=3) (ks:=1) (n:=((m+1+0:Nat):Int)) (.inl rfl) rfl rfl (by decide) hs.b hs.len (by omega) (by omega) ?_
    simp -implicitDefEqProofs only [go_sem,ih7,wb7,zl7,sc7,ug7,wkM,cp7,fp7]
    exact⟨by omega,by omega,(1,m+2),⟨by omega,by (try simp only[]);omega⟩,rfl,rfl,by simp only[];omega⟩
   ·have hx:=hxv (by omega)
    simp only[Nat.add_zero]at had1
    refine⟨by omega, ?_⟩
    refine yk7 (l:=l) (what:=what) (kn:=3) (ks:=1) (n:=((m+1+0:Nat):Int)) (.inr rfl) rfl rfl (by decide) hs.b hs.len (by omega) (by omega) ?_
    simp -implicitDefEqProofs only [go_sem,ih7,wb7,zl7,sc7,ug7,wkM,cp7,fp7]
    exact⟨by omega,by omega,1,by omega,rfl,rfl,by omega⟩
   ·simp only[Nat.add_zero]at had1
    refine yk7 (l:=l) (what:=what) (kn:=3) (ks:=1) (n:=((m+1+0:Nat):Int)) (.inl rfl) rfl rfl (by decide) hs.b hs.len (by omega) (by omega) ?_
    simp -implicitDefEqProofs only [go_sem,ih7,wb7,zl7,sc7,ug7,wkM,cp7,fp7]
    exact⟨by omega,by omega,by omega,(k+2,m+2),⟨by omega,by (try simp only[]);omega⟩,rfl,rfl,by simp only[];omega⟩
   ·have hx:=hxv (by omega)
    refine⟨by omega, ?_⟩
    refine yk7 (l:=l) (what:=what) (kn:=3) (ks:=1) (n:=((m+1+(j+1):Nat):Int)) (.inr rfl) rfl rfl (by decide) hs.b hs.len (by omega) (by omega) ?_
    simp -implicitDefEqProofs only [go_sem,ih7,wb7,zl7,sc7,ug7,wkM,cp7,fp7]
    exact⟨by omega,by omega,by omega,j+2,by omega,rfl,rfl,by omega⟩
   ·refine yk7 (l:=l) (what:=what) (kn:=3) (ks:=1) (n:=((m+1+(j+1):Nat):Int)) (.inl rfl) rfl rfl (by decide) hs.b hs.len (by omega) (by omega) ?_
    simp -implicitDefEqProofs only [go_sem,ih7,wb7,zl7,sc7,ug7,wkM,cp7,fp7]
    exact⟨by omega,by omega,(1,m+1+(j+1)+1),⟨by omega,by (try simp only[]);omega⟩,rfl,rfl,by simp only[];omega⟩
   ·have hx:=hxv (by omega)
    refine⟨by omega, ?_⟩
    refine yk7 (l:=l) (what:=what) (kn:=3) (ks:=1) (n:=((m+1+(j+1):Nat):Int)) (.inr rfl) rfl rfl (by decide) hs.b hs.len (by omega) (by omega) ?_
    simp -implicitDefEqProofs only [go_sem,ih7,wb7,zl7,sc7,ug7,wkM,cp7,fp7]
    exact⟨by omega,by omega,by omega,j+2,by omega,rfl,rfl,by omega⟩
   ·refine yk7 (l:=l) (what:=what) (kn:=3) (ks:=1) (n:=((m+1+(j+1):Nat):Int)) (.inl rfl) rfl rfl (by decide) hs.b hs.len (by omega) (by omega) ?_
    simp -implicitDefEqProofs only [go_sem,ih7,wb7,zl7,sc7,ug7,wkM,cp7,fp7]
    exact⟨by omega,by omega,by omega,(k+2,m+1+(j+1)+1),⟨by omega,by (try simp only[]);omega⟩,rfl,rfl,by simp only[];omega⟩
  ·obtain rfl:k=t.bikes.length:=by omega
   clear hm h hk
   generalize t.trucks.length=nT at htl ⊢
   generalize t.bikes.length=nB at hbl ⊢
   rcases nT with _ | nT <;> rcases nB with _ | nB
   all_goals
    simp -implicitDefEqProofs only [go_sem,zlb7,tmb7,kqb7,job7,rjb7,ih7,wb7,zl7,sc7,ug7,wkM,Int.zero_tdiv,eq_self,cp7,fp7,u_S,elc7,flc7,llc7,clc7,qlc7,rkc7,okc7,u_c,u_a,u_f,khc7,gdc7,edc7,rdc7,ojc7,u_h,nkc7,tkc7,nlc7,dlc7,hkc7,upK,upK.upKs,bec7,ehc7,tgc7,olc7,jvb7,ahc7,glc7,pm7,zb7]
   all_goals
    try have htd:((nB+1:Nat):Int).tdiv 2=((nB+1:Nat):Int) / 2:=Int.tdiv_eq_ediv_of_nonneg (by omega)
    repeat' (first | exact jxb7 (k:=200000) (by first | exact .inl rfl | exact .inr ⟨_,by omega,rfl⟩) (by first | exact .inl rfl | exact .inr ⟨_,by omega,rfl⟩) | exact jxb7 (k:=200001) (by first | exact .inl rfl | exact .inr ⟨_,by omega,rfl⟩) (by first | exact .inl rfl | exact .inr ⟨_,by omega,rfl⟩) | exact And.intro (by omega) (by omega) | refine And.intro ?_ ?_ | intro _)
    all_goals omega
end Go.Proofs.YtabadfkikdefeaaGreat.Ab
namespace Go.Proofs.YtabadfkikdefeaaGreat
open Go.RowKit Go.WideShapes Go.ChangeShapes Go.ChangeAt
def iz7 (B:Nat) (out:List (List ea7)):Prop:=∀t∈out,∀u∈t,0≤u.sat∧u.sat<(B:Int)
theorem iz7.ready {B:Nat}{many room:Int}{q:Bool}{st:List (List ea7)×Int}(h:iz7 B st.1):iz7 B (readyQ many room q st).1:=by
 unfold readyQ
 split
 ·intro t ht
  rcases List.mem_append.1 ht with ht | ht
  ·exact h t ht
  ·obtain rfl:=List.mem_singleton.1 ht
   intro u hu;cases hu
 ·exact h
theorem iz7.add {B:Nat}{out:List (List ea7)}(h:iz7 B out) {s:ea7}(hs:0≤s.sat∧s.sat<(B:Int)):iz7 B (ub7 out s):=by
 intro t ht
 unfold ub7 at ht
 rcases List.mem_or_eq_of_mem_set ht with ht | rfl
 ·exact h t ht
 ·intro u hu
  rcases List.mem_append.1 hu with hu | hu
  ·by_cases hk:out.length-1<out.length
   ·rw[List.getD_eq_getElem?_getD,List.getElem?_eq_getElem hk]at hu
    exact h _ (List.getElem_mem hk) u hu
   ·rw[List.getD_eq_getElem?_getD,List.getElem?_eq_none (by omega)]at hu;cases hu
  ·obtain rfl:=List.mem_singleton.1 hu;exact hs
def zcb7:Shape (List Int×Int) where
 sz:=2
 rep:=fun w F x cs=>∃v,cs=[v,.int .u8 x.2]∧(0≤x.2∧x.2≤255)∧(ia7 i8S).rep w F x.1 [v]
 len:=by rintro w F x cs ⟨_,rfl,_⟩;rfl
 keep:=by rintro w w' F x cs ⟨_,rfl,h1,h2⟩ ha;exact⟨_,rfl,h1,(ia7 i8S).keep h2 ha⟩
 weak:=by rintro w F G x cs ⟨_,rfl,h1,h2⟩ ha;exact⟨_,rfl,h1,(ia7 i8S).weak h2 ha⟩
 lt:=by rintro w F x cs ⟨_,rfl,h1,h2⟩;exact⟨_,rfl,h1,(ia7 i8S).lt h2⟩
theorem hwb7:rm7 Tryz.prog 32 zcb7:=by
 intro H enc w base spare held fuel cs x h
 have hl:cs.length=2:=(fq7 Tryz.underlying32 h).trans (by kernel_rfl)
 match cs,hl with
 | [v0,v1],_ =>
  obtain⟨_,_,f0⟩:=ed7 Tryz.underlying32 h 0 30 0 1 rfl (by kernel_rfl)
  obtain⟨_,_,f1⟩:=ed7 Tryz.underlying32 h 1 5 1 1 rfl (by kernel_rfl)
  obtain⟨a0,r0⟩:=cm7 (S:=i8S) Tryz.underlying30 (by kernel_rfl) ucc7 _ _ _ _ _ _ _ _ _ f0
  obtain⟨a1,r1⟩:=op7 _ _ _ _ _ _ _ _ _ f1
  obtain⟨e,hw⟩:=r1
  obtain rfl:=(List.cons.inj e).1
  exact⟨⟨a0,a1⟩,v0,rfl,hw,r0⟩
section
variable {H:Type} {enc:TypeId×Value→H} {P:Program} {w:World} {base:Nat} {spare:Nat→Bool} {held:Bool}
end
namespace Ab
theorem nyb7 {x:ba7}{p:sa7}(h:zy7 x p):bkc7 (ab7 x p):=by
 have hw:=byb7 h
 refine⟨by rw[gp7];exact h.tl,by rw[mp7];exact h.bl,fun l hl=>⟨?_,hw.1 l hl⟩,fun r hr=>⟨?_,hw.2 r hr⟩⟩
 ·obtain⟨k,hk,rfl⟩:=List.getElem_of_mem hl
  have hk2:k<p.trucks.length:=by rw[← gp7 x p];exact hk
  rw[xhb7 x p hk2 hk]
  exact (h.t1 _ (List.getElem_mem hk2)).1
 ·obtain⟨k,hk,rfl⟩:=List.getElem_of_mem hr
  have hk2:k<p.bikes.length:=by rw[← mp7 x p];exact hk
  rw[zhb7 x p hk2 hk]
  exact (h.b1 _ (List.getElem_mem hk2)).1
def mx7 (s:List Int×Int):List AV:=[eI8 s.1,.int .u8 s.2]
theorem lkc7:Fwd i8S (fun x _=>.int .i8 x):=by
 rintro w F x cs ⟨rfl,-⟩ j hj
 have hj:j<1:=hj
 obtain rfl:j=0:=by omega
 exact⟨_,rfl,rfl⟩
theorem uac7 {w:World}{F:Nat→Prop}{s:List Int×Int}{cs:List Value}(h:zcb7.rep w F s cs):ke7 F w (mx7 s) cs:=by
 obtain⟨v,rfl,h1,h2⟩:=h
 exact⟨_,_,rfl,fs (e:=fun x _=>.int .i8 x) (0:Int) lkc7 h2,_,_,rfl,rfl,rfl⟩
theorem lzb7 {w:World}{F:Nat→Prop}{s:List Int×Int}{cs:List Value}(h:zcb7.rep w F s cs):ffb7 s.1 s.2:=by
 obtain⟨v,rfl,h1,a,b,off,c,e1,g1,g2,g3,g4⟩:=h
 refine⟨fun u hu=>?_,Nat.le_trans g1 g2,h1⟩
 obtain⟨i,hi,rfl⟩:=List.getElem_of_mem hu
 obtain⟨es,⟨-,k1⟩,-⟩:=g4 i hi
 exact k1
theorem yvb7 {pu:Pu}{H:List Root}{x:ba7}{p:sa7}{s:List Int×Int}{args:List RV}{K:RV→List Root→Prop}(h:zy7 x p) (hs:ffb7 s.1 s.2) (ho:jpb7 H args) (he:fu7 H args=[.agg (zb7 (ab7 x p)),.agg (mx7 s)]) (hH:mm7 H args=H)
  (hK:∀t:tb7,otb7 t→t.trucks.length≤200000→t.bikes.length≤200000→K (.agg (zb7 t)) H):no7 Tryz.prog pu 25 args H K :=
 wl7 (jac7 (nyb7 h) hs) ho he hH (by
  rintro r ⟨t,rfl,h1,h2,h3,h4⟩
  exact hK t ⟨h1,h2⟩ h3 h4)
end Ab
end Go.Proofs.YtabadfkikdefeaaGreat
namespace Go.Proofs.YtabadfkikdefeaaGreat.Ab
open Go.RowKit Go.Lib
theorem cyb7 {d:Int}(h0:0≤d) (h1:d<10):(ByteArray.mk #[48,49,50,51,52,53,54,55,56,57]).extract d.toNat (d+1).toNat=S [UInt8.ofNat (48+d.toNat)]:=by
 obtain⟨k,rfl⟩:∃k:Nat,d=k:=⟨d.toNat,by omega⟩
 have hk:k<10:=by omega
 have h:∀k:Fin 10,(ByteArray.mk #[48,49,50,51,52,53,54,55,56,57]).extract k.val (k.val+1)=S [UInt8.ofNat (48+k.val)]:=by decide +kernel
 have:=h ⟨k,hk⟩
 simpa[show ((k:Int)+1).toNat=k+1 by omega]using this
theorem ogb7 {n:Int}(hn:pa7 n):PCall Tryz.prog 58 [.c (I6 n)] (fun r=>r = .c (.str (S (itoa n)))):=by
 unfold pa7 at hn
 refine vg7 ko7 (by kernel_rfl) (fun _=>([],0,none)) Tryz.func58 rfl (by kernel_rfl) Tryz.ntmps58 (congrArg Array.toList Tryz.results58) (by kernel_rfl) (by simp) ?_
 simp -implicitDefEqProofs only [go_sem]
 refine ie7 (ι:=List UInt8×Int) [0] [3,4] (fun s=>decDigits n.natAbs=decDigits s.2.natAbs++s.1∧s.2.natAbs≤n.natAbs∧s.1.length≤30∧(n<0→s.2≤0)∧(0≤n→0≤s.2)) (fun s=>[.c (.str (S s.1)),.c (I6 s.2)]) (fun _=>_) (fun s=>s.2.natAbs) (by kernel_rfl) ⟨([],n),⟨by simp,by simp,by simp,fun h=>Int.le_of_lt h,fun h=>h⟩,rfl,rfl⟩ (fun s _=>⟨rfl,rfl,rfl,rfl⟩) ?_
 rintro⟨ds,k⟩ ⟨hd,hk,hl,hs1,hs2⟩
 simp only at hd hk hl hs1 hs2
 have hq1:(k.tmod 10).natAbs=k.natAbs % 10:=by rw[Int.natAbs_tmod];rfl
 have hq2:(k.tdiv 10).natAbs=k.natAbs / 10:=by rw[Int.natAbs_tdiv];rfl
 have hq3:k≤0→k.tdiv 10≤0:=fun h=>by
  have:=Int.tdiv_nonneg (a:=-k) (b:=10) (by omega) (by decide)
  rw[Int.neg_tdiv]at this;omega
 have hq4:0≤k→0≤k.tdiv 10:=fun h=>Int.tdiv_nonneg h (by decide)
 have hdl:(decDigits n.natAbs).length≤20:=by rw[decDigits_length];exact nDigits_le20 _ (by omega)
 have hdk:=jib7 k.natAbs
 have hlen:=congrArg List.length hd
 rw[List.length_append]at hlen
 have hsm:k.natAbs<10→decDigits n.natAbs=UInt8.ofNat (48+k.natAbs % 10)::ds:=fun h=>by rw[hd,qfb7 h];rfl
 have hbg:¬k.natAbs<10→decDigits n.natAbs=decDigits (k.natAbs / 10)++(UInt8.ofNat (48+k.natAbs % 10)::ds):=fun h=>by rw[hd,hob7 h,List.append_assoc];rfl
 have hit:itoa n=if n<0 then 45::decDigits n.natAbs else decDigits n.natAbs:=by
  unfold itoa
  split
  ·rfl
  ·rw[show n.toNat=n.natAbs by omega]
 have key:∀d:Int,0≤d→d.natAbs=k.natAbs % 10→(ByteArray.mk #[48,49,50,51,52,53,54,55,56,57]).extract d.toNat (d+1).toNat=S [UInt8.ofNat (48+k.natAbs % 10)]:=fun d h0 h1=>by
  rw[cyb7 h0 (by omega),show d.toNat=k.natAbs % 10 by omega]
 generalize hb:UInt8.ofNat (48+k.natAbs % 10)=b at hsm hbg key
 simp -implicitDefEqProofs only [go_sem]
 generalize k.tmod 10=r at hq1
 generalize k.tdiv 10=q at hq2 hq3 hq4
 refine⟨by decide,fun h=>?_,fun h=>?_⟩
 ·rw[key (-r) (by omega) (by omega),xp7,show (S [b]).size=1 from rfl]
  refine⟨⟨by omega,by omega⟩,⟨by omega,by omega⟩,⟨by omega,by omega,by simp;omega⟩,by simp;omega,⟨by decide,by omega,by omega⟩,fun h2=>⟨fun h3=>⟨by simp;omega, ?_⟩,fun h3=>?_⟩,fun h2=>⟨⟨by decide,by omega,by omega⟩,(b::ds,q),⟨?_,by simp only;omega,by simp;omega,fun h=>hq3 (hs1 h),fun h=>hq4 (hs2 h)⟩,rfl,by simp only;omega⟩⟩
  ·rw[hit,if_pos h3,hsm (by omega)]
   simp[xp7]
  ·rw[hit,if_neg h3,hsm (by omega)];rfl
  ·simp only;rw[hq2];exact hbg (by omega)
 ·rw[key r (by omega) (by omega),xp7,show (S [b]).size=1 from rfl]
  refine⟨⟨by omega,by omega⟩,⟨by omega,by omega,by simp;omega⟩,by simp;omega,⟨by decide,by omega,by omega⟩,fun h2=>⟨fun h3=>⟨by simp;omega, ?_⟩,fun h3=>?_⟩,fun h2=>⟨⟨by decide,by omega,by omega⟩,(b::ds,q),⟨?_,by simp only;omega,by simp;omega,fun h=>hq3 (hs1 h),fun h=>hq4 (hs2 h)⟩,rfl,by simp only;omega⟩⟩
  ·rw[hit,if_pos h3,hsm (by omega)]
   simp[xp7]
  ·rw[hit,if_neg h3,hsm (by omega)];rfl
  ·simp only;rw[hq2];exact hbg (by omega)
theorem vy7 {nm:List UInt8}{l:List Int}(hn:nm.length≤1000) (hl:l.length≤100000) (hw:∀n∈l,pa7 n):PCall Tryz.prog 53 [.c (.str (S nm)),.c (ye7 l)] (fun r=>r = .c (.str (S (rg7 nm l)))) :=
 tn7 ⟨_,_,Tryz.func53,by kernel_rfl,rfl⟩ fun rho w vs hc=>by
  obtain⟨_,_,rfl,rfl,v,_,rfl,h1,rfl⟩:=hc
  refine (hcc7 (bs 0 iyb7 h1 hw) hn hl).mono ?_
  rintro e w' ⟨rfl,hb⟩
  exact⟨_,_,rfl,rfl,rfl,hb⟩
theorem akb7 {l:List Int}(h:∀n∈l,pa7 n) (i:Nat):pa7 (l.getD i 0):=yi7 (P:=pa7) h w0 i
theorem zr7 {l:List Int}(hl:l.length≤100000) (hw:∀n∈l,pa7 n):PCall Tryz.prog 59 [.c (ye7 l)] (fun r=>r = .c (.str (S (rg7 [] l)))):=by
 refine vg7 ko7 (by kernel_rfl) (fun _=>([],0,none)) Tryz.func59 rfl (by kernel_rfl) Tryz.ntmps59 (congrArg Array.toList Tryz.results59) (by kernel_rfl) (by simp) ?_
 simp -implicitDefEqProofs only [go_sem]
 refine ie7 (ι:=Nat) [6,7] [3,8] (fun k=>k≤l.length) (fun k=>[.c (.str (S (lnS [] (l.take k)))),.c (I6 k)]) (fun _=>_) (fun k=>l.length-k) (by kernel_rfl) ⟨0,Nat.zero_le _,rfl,rfl⟩ (fun s _=>⟨rfl,rfl,rfl,rfl⟩) ?_
 intro k hk
 have hln:(lnS [] (l.take k)).length≤3000000:=by
  have:=hcb7 (l.take k) [] fun n hn=>hw n (List.mem_of_mem_take hn)
  rw[List.length_take]at this
  simp only[List.length_nil]at this
  omega
 have hil:=xu7 (akb7 hw k)
 simp -implicitDefEqProofs only [go_sem]
 refine⟨fun h=>?_,fun h=>?_⟩
 ·have hlt:k<l.length:=by omega
  have hs:=kbb7 [] l hlt
  have hp:=fun h0:0<k=>hyb7 [] l h0 hk
  have h0:k=0→lnS [] (l.take k)=[]:=fun e=>by subst e;rfl
  have hgw:=akb7 hw k
  generalize lnS [] (l.take k)=b at *
  generalize l.getD k 0=n at *
  refine⟨⟨by omega,by omega⟩,fun h1=>?_,fun h1=>?_⟩
  ·refine⟨by simp;omega,ve7 (ogb7 hgw) (by simp -implicitDefEqProofs only [go_sem]) rfl (fun r h=>by subst h;rfl) ?_⟩
   rintro r rfl
   simp -implicitDefEqProofs only [go_sem,xp7]
   refine⟨by simp;omega,⟨by omega,by omega⟩,k+1,by omega, ?_,by omega⟩
   rw[hs];unfold qh7;rw[if_pos (hp (by omega))];rfl
  ·refine ve7 (ogb7 hgw) (by simp -implicitDefEqProofs only [go_sem]) rfl (fun r h=>by subst h;rfl) ?_
   rintro r rfl
   simp -implicitDefEqProofs only [go_sem,xp7]
   refine⟨by simp;omega,⟨by omega,by omega⟩,k+1,by omega, ?_,by omega⟩
   rw[hs];unfold qh7;rw[h0 (by omega)];rfl
 ·obtain rfl:k=l.length:=by omega
  rw[List.take_length]at hln ⊢
  exact⟨by simp;omega,by rw[xp7];rfl⟩
end Go.Proofs.YtabadfkikdefeaaGreat.Ab
namespace Go.Proofs.YtabadfkikdefeaaGreat.Ab
open Go.RowKit Go.Lib
theorem un7 {α:Type}{l:List α}{k:Nat}(h:l.length≤k) (d:α):l.getD k d=d:=by
 rw[List.getD_eq_getElem?_getD,List.getElem?_eq_none h];rfl
theorem kjb7 {l:List Int}{k:Nat}(hk:k≤1000000):PCall Tryz.prog 60 [.c (ye7 l),.c (I6 k)] (fun r=>r = .c (I6 (l.getD k 0))):=by
 refine vg7 ko7 (by kernel_rfl) (fun _=>([],0,none)) Tryz.func60 rfl (by kernel_rfl) Tryz.ntmps60 (congrArg Array.toList Tryz.results60) (by kernel_rfl) (by simp) ?_
 simp -implicitDefEqProofs only [go_sem]
 refine⟨fun h=>?_,fun h=>?_⟩
 ·exact⟨by omega,by omega⟩
 ·rw[un7 (by omega)]
theorem cxb7 {l:List Int}{k:Nat}(hk:k≤1000000):PCall Tryz.prog 54 [.c (ye7 l),.c (I6 k)] (fun r=>r = .c (I6 (l.getD k 0))):=by
 refine vg7 ko7 (by kernel_rfl) (fun _=>([],0,none)) Tryz.func54 rfl (by kernel_rfl) Tryz.ntmps54 (congrArg Array.toList Tryz.results54) (by kernel_rfl) (by simp) ?_
 simp -implicitDefEqProofs only [go_sem]
 refine⟨fun h=>?_,fun h=>?_⟩
 ·exact⟨by omega,by omega⟩
 ·rw[un7 (by omega)]
theorem sxb7 {t:tb7}{k:Nat}(hk:k≤1000000):PCall Tryz.prog 55 [.c (.sl t.trucks.length 1 (fun i _=>ye7 (fs7 t i))),.c (I6 k)] (fun r=>r = .c (ye7 (fs7 t k))):=by
 refine vg7 ko7 (by kernel_rfl) (fun _=>([],0,none)) Tryz.func55 rfl (by kernel_rfl) Tryz.ntmps55 (congrArg Array.toList Tryz.results55) (by kernel_rfl) (by simp) ?_
 simp -implicitDefEqProofs only [go_sem]
 refine⟨fun h=>⟨⟨by omega,by omega⟩,_,⟨_,rfl,.inl rfl⟩,rfl⟩,fun h=>⟨_,⟨_,rfl,.inr ?_⟩,rfl⟩⟩
 have e:fs7 t k=[]:=un7 (by omega) _
 rw[e]
 exact .inr ⟨_,_,rfl⟩
theorem evb7 {t:tb7}{k:Nat}(hk:k≤1000000):PCall Tryz.prog 56 [.c (.sl t.bikes.length 3 (fun i=>ix3 (I6 (fi7 t i).out) (ye7 (fi7 t i).starts) (I6 (fi7 t i).back))),.c (I6 k)] (fun r=>r = .agg [I6 (fi7 t k).out,ye7 (fi7 t k).starts,I6 (fi7 t k).back]):=by
 refine vg7 ko7 (by kernel_rfl) (fun _=>([],0,none)) Tryz.func56 rfl (by kernel_rfl) Tryz.ntmps56 (congrArg Array.toList Tryz.results56) (by kernel_rfl) (by simp) ?_
 simp -implicitDefEqProofs only [go_sem]
 refine⟨fun h=>⟨⟨by omega,by omega⟩,_,⟨_,rfl,_,_,rfl,.inl rfl,_,_,rfl,.inl rfl,_,_,rfl,.inl rfl,rfl⟩,rfl⟩,fun h=>?_⟩
 have e:fi7 t k=⟨0,[],0⟩:=un7 (by omega) _
 rw[e]
 exact⟨_,⟨_,rfl,_,_,rfl,.inl rfl,_,_,rfl,.inr (.inr ⟨_,_,rfl⟩),_,_,rfl,.inl rfl,rfl⟩,rfl⟩
end Go.Proofs.YtabadfkikdefeaaGreat.Ab
namespace Go.Proofs.YtabadfkikdefeaaGreat.Ab
open Go.RowKit Go.Lib
def qec7:Tr:=.br false 2 (.br false 3 (.br false 4 (.br false 9 (.br false 10 (.d false) .no) .no) (.br false 9 (.br false 4 (.br false 10 (.d false) .no) (.br false 10 (.br false 4 (.d false) .no) .no)) .no)) (.br false 9 (.br false 3 (.br false 4 (.br false 10 (.d false) .no) (.br false 10 (.br false 4 (.d false) .no) .no)) (.br false 10 (.br false 3 (.br false 4 (.d false) .no) .no) .no)) .no)) (.br false 9 (.br false 2 (.br false 3 (.br false 4 (.br false 10 (.d false) .no) (.br false 10 (.br false 4 (.d false) .no) .no)) (.br false 10 (.br false 3 (.br false 4 (.d false) .no) .no) .no)) .no) .no)
def lwb7:Pl:=.s .a (.k [1,3] (.t [0,1,5,6,7,8] qec7 [11,12] [11,12]) .a)
theorem of7 {len:Nat}{l:List Int}(h:len=l.length):AV.sl len 1 (fun i j=>(Row.ints .i64 l).get (0+i) j)=ye7 l:=by
 subst h
 simp only[Row.get,Nat.zero_add]
theorem qub7 (p:sa7) (c:Int):112::108::97::110::32::(itoa c++[10,116,114,117,99,107,115,32]++rg7 [] [(p.trucks.length:Int)])=kp7 p c:=by
 simp[kp7,rg7,lnS,qh7]
theorem jyb7 (p:sa7) (t:tb7) (c:Int):kp7 p c++wf7 p t p.trucks.length++98::105::107::101::115::32::rg7 [] [(p.bikes.length:Int)]=bgb7 p t c:=by
 simp[bgb7,rg7,lnS,qh7]
def hr7 (s:hi7):List Root:=[.live false 43 5 (.box (pg7 s)),.live false 3 1 (.ints .i64 [(s.plan.trucks.length:Int)])]
def lxb7 (s:hi7) (k j:Nat):List Root:=hr7 s++[.live false 124 1 (.box [wt7 (ef7 s.plan k)]),.live false 3 1 (.ints .i64 (tCells (ef7 s.plan k) (fs7 s.times k) j))]
def mfb7 (s:hi7):List Root:=hr7 s++[.live false 3 1 (.ints .i64 [(s.plan.bikes.length:Int)])]
def bdb7 (s:hi7) (k:Nat) (rd:List AV) (j:Nat):List Root:=mfb7 s++[.live false 70 2 (.box [I6 (xe7 s.plan k).sat,ye7 (xe7 s.plan k).stops]),.live false 136 3 (.box rd),.live false 3 1 (.ints .i64 (kCells (xe7 s.plan k) (fi7 s.times k) j))]
theorem cbc7 {s:hi7}(h:le7 s.plan s.times s.cost):PCall Tryz.prog 15 [.agg (pg7 s)] (fun r=>r = .c (.str (S (vz7 s.plan s.times s.cost)))):=by
 refine onb7 lwb7 ko7 (by kernel_rfl) (fun n=>match n with | 12=>([],2,none) | _=>([],0,none)) Tryz.func15 rfl (by kernel_rfl) Tryz.ntmps15 (congrArg Array.toList Tryz.results15) (by kernel_rfl) (by simp) ?_
 simp -implicitDefEqProofs only [go_sem,lwb7,zlb7,tmb7,pg7,ee7,zb7]
 have hc:=h.c
 have hnt:pa7 (s.plan.trucks.length:Int):=wn h.nt
 have hcl:=xu7 hc
 have hnn:=h.nt
 have hbb:=h.nb
 have hol:=tp7 hnt []
 simp only[List.length_nil]at hol
 refine xhc7 (fun σ'=>σ'=⟨[(1,true,.c (.ptr 0 1 0 0)),(3,true,.c (.str (S (kp7 s.plan s.cost))))],hr7 s⟩) ?_ ?_
 ·simp -implicitDefEqProofs only [go_sem,qec7,rjb7,ehc7,tgc7,ahc7,qhc7,jvb7]
  have hl0:∀v∈[(s.plan.trucks.length:Int)],pa7 v:=fun v hv=>by rw[List.mem_singleton.1 hv];exact hnt
  have hw1:∀H,kj7 H []=[]:=fun _=>rfl
  repeat' first
   | (refine ve7 (ogb7 hc) (by simp -implicitDefEqProofs only [go_sem]) rfl (fun r h=>by subst h;rfl) ?_;rintro r rfl;simp -implicitDefEqProofs only [go_sem,xp7,rjb7,ehc7,tgc7,ahc7,qhc7,jvb7,mwb7])
   | (refine lj7 (zr7 (l:=[(s.plan.trucks.length:Int)]) (by simp) hl0) ⟨⟨rfl,rfl⟩,trivial⟩ (by simp only[kj7,ts7,ap7,frz,da7];rw[of7 (by rfl)]) (fun r h=>by subst h;rfl) ?_;rintro r rfl;simp -implicitDefEqProofs only [go_sem,xp7,rjb7,ehc7,tgc7,ahc7,qhc7,jvb7,mwb7])
   | with_reducible refine And.intro ?_ ?_
   | (simp;omega)
  all_goals exact congrArg (fun l=>(⟨[(1,true,.c (.ptr 0 1 0 0)),(3,true,.c (.str (S l)))],hr7 s⟩:AS)) (qub7 s.plan s.cost)
 ·rintro σ' rfl
  simp -implicitDefEqProofs only [go_sem,hr7,zlb7,pg7,ee7,zb7]
  refine ie7 (ι:=Nat) [1,30,31] [3,32] (fun k=>k≤s.plan.trucks.length) (fun k=>[.c (.str (S (kp7 s.plan s.cost++wf7 s.plan s.times k))),.c (I6 k)]) (fun _=>_) (fun k=>s.plan.trucks.length-k) (by kernel_rfl) ⟨0,Nat.zero_le _,by simp[wf7,gets,xm7,lk],rfl⟩ (fun s _=>⟨rfl,rfl,rfl,rfl⟩) ?_
  intro k hk
  simp -implicitDefEqProofs only [go_sem]
  refine⟨fun h1=>?_,fun h1=>?_⟩
  ·have hkl:(ef7 s.plan k).length≤30000:=(h.truck k).1
   refine⟨by omega,fun h2=>⟨by omega, ?_⟩,fun h2=>?_⟩
   all_goals
    refine ie7 (ι:=Nat) [1,3,7,30,31,32,54,55] [6,56] (fun j=>j≤(ef7 s.plan k).length) (fun j=>[.c (.h 3 0 (tCells (ef7 s.plan k) (fs7 s.times k) j).length),.c (I6 j)]) (fun j=>lxb7 s k j) (fun j=>(ef7 s.plan k).length-j) (by kernel_rfl) ⟨0,Nat.zero_le _,rfl,rfl⟩ (fun _ _=>⟨rfl,rfl,rfl,rfl⟩) ?_
    intro j hj
    simp -implicitDefEqProofs only [go_sem,lxb7,hr7,pg7,ee7,zb7]
    refine⟨fun h3=>?_,fun h3=>?_⟩
   ·refine⟨by omega,ve7 (kjb7 (by omega)) (by simp -implicitDefEqProofs only [go_sem]) rfl (fun r h=>by subst h;rfl) ?_⟩
    rintro r rfl
    simp -implicitDefEqProofs only [go_sem]
    have hlen:=wc7 (ef7 s.plan k) (fs7 s.times k) j
    refine⟨by omega,⟨by omega,by omega⟩,j+1,by omega, ?_, ?_,by omega⟩
    ·rw[wc7,wc7,show 1+3*(j+1)=1+3*j+3 by omega];rfl
    ·rw[pj7];rfl
   ·obtain rfl:j=(ef7 s.plan k).length:=by omega
    have hlen:=wc7 (ef7 s.plan k) (fs7 s.times k) (ef7 s.plan k).length
    have hcw:=h.tCells k (ef7 s.plan k).length
    have htr:=h.trucksL k
    have hhd:=h.headL
    have htk:=h.truckL k
    have htk':(rg7 [] (tCells (ef7 s.plan k) (fs7 s.times k) (ef7 s.plan k).length)).length≤1980023:=htk
    refine lj7 (zr7 (l:=tCells (ef7 s.plan k) (fs7 s.times k) (ef7 s.plan k).length) (by omega) hcw) ⟨⟨Nat.zero_add _,rfl⟩,trivial⟩ (by simp only[kj7,ts7,ap7,frz,da7];rw[of7 rfl]) (fun r h=>by subst h;rfl) ?_
    rintro r rfl
    simp -implicitDefEqProofs only [go_sem,xp7]
    refine⟨by simp only[List.size_toArray,List.length_append];omega,⟨by omega,by omega⟩,k+1,by omega, ?_,by omega⟩
    rw[sj7,List.append_assoc];rfl
   ·have hu:fs7 s.times k=[]:=un7 (by omega) _
    refine⟨by omega,ybb7 (kjb7 (l:=[]) (k:=j) (by omega)) (by simp -implicitDefEqProofs only [go_sem]) ⟨_,_,rfl,.inr ⟨_,rfl,.inr (.inr ⟨_,_,rfl⟩)⟩,_,_,rfl,.inl rfl,rfl⟩ (fun r h=>by subst h;rfl) ?_⟩
    rintro r rfl
    simp -implicitDefEqProofs only [go_sem]
    have hlen:=wc7 (ef7 s.plan k) (fs7 s.times k) j
    refine⟨by omega,⟨by omega,by omega⟩,j+1,by omega, ?_, ?_,by omega⟩
    ·rw[wc7,wc7,show 1+3*(j+1)=1+3*j+3 by omega];rfl
    ·rw[pj7];unfold tItem;rw[hu];rfl
   ·obtain rfl:j=(ef7 s.plan k).length:=by omega
    have hlen:=wc7 (ef7 s.plan k) (fs7 s.times k) (ef7 s.plan k).length
    have hcw:=h.tCells k (ef7 s.plan k).length
    have htr:=h.trucksL k
    have hhd:=h.headL
    have htk:=h.truckL k
    have htk':(rg7 [] (tCells (ef7 s.plan k) (fs7 s.times k) (ef7 s.plan k).length)).length≤1980023:=htk
    refine lj7 (zr7 (l:=tCells (ef7 s.plan k) (fs7 s.times k) (ef7 s.plan k).length) (by omega) hcw) ⟨⟨Nat.zero_add _,rfl⟩,trivial⟩ (by simp only[kj7,ts7,ap7,frz,da7];rw[of7 rfl]) (fun r h=>by subst h;rfl) ?_
    rintro r rfl
    simp -implicitDefEqProofs only [go_sem,xp7]
    refine⟨by simp only[List.size_toArray,List.length_append];omega,⟨by omega,by omega⟩,k+1,by omega, ?_,by omega⟩
    rw[sj7,List.append_assoc];rfl
  ·obtain rfl:k=s.plan.trucks.length:=by omega
   have htr:=h.trucksL s.plan.trucks.length
   have hhd:=h.headL
   have hml:=h.midL
   have hbn:pa7 (s.plan.bikes.length:Int):=wn h.nb
   have hobl:=tp7 hbn []
   simp only[List.length_nil]at hobl
   refine lj7 (zr7 (l:=[(s.plan.bikes.length:Int)]) (by simp) (fun v hv=>by rw[List.mem_singleton.1 hv];exact hbn)) ⟨⟨rfl,rfl⟩,trivial⟩ (by simp only[kj7,ts7,ap7,frz,da7];rw[of7 (by rfl)]) (fun r h=>by subst h;rfl) ?_
   rintro r rfl
   simp -implicitDefEqProofs only [go_sem,xp7]
   refine⟨by simp;omega,by simp;omega, ?_⟩
   rw[jyb7]
   refine ie7 (ι:=Nat) [1,88,89] [3,90] (fun k=>k≤s.plan.bikes.length) (fun k=>[.c (.str (S (bgb7 s.plan s.times s.cost++qi7 s.plan s.times k))),.c (I6 k)]) (fun _=>mfb7 s) (fun k=>s.plan.bikes.length-k) (by kernel_rfl) ⟨0,Nat.zero_le _,by simp[qi7,gets,xm7,lk],rfl⟩ (fun s _=>⟨rfl,rfl,rfl,rfl⟩) ?_
   intro k hk
   simp -implicitDefEqProofs only [go_sem,mfb7,hr7,pg7,ee7,zb7]
   refine⟨fun h1=>?_,fun h1=>?_⟩
   ·have hkl:(xe7 s.plan k).stops.length≤30000:=(h.bike k).1
    refine⟨by omega,fun h2=>⟨by omega, ?_⟩,fun h2=>?_⟩
    ·refine ie7 (ι:=Nat) [1,3,12,88,89,90,116,117] [13,118] (fun j=>j≤(xe7 s.plan k).stops.length) (fun j=>[.c (.h 5 0 (kCells (xe7 s.plan k) (fi7 s.times k) j).length),.c (I6 j)]) (fun j=>bdb7 s k [I6 (fi7 s.times k).out,ye7 (fi7 s.times k).starts,I6 (fi7 s.times k).back] j) (fun j=>(xe7 s.plan k).stops.length-j) (by kernel_rfl) ⟨0,Nat.zero_le _,rfl,rfl⟩ (fun _ _=>⟨rfl,rfl,rfl,rfl⟩) ?_
     intro j hj
     have hlen:=zd7 (xe7 s.plan k) (fi7 s.times k) j
     simp -implicitDefEqProofs only [go_sem,bdb7,mfb7,hr7,pg7,ee7,zb7]
     refine⟨fun h3=>?_,fun h3=>?_⟩
     ·refine⟨by omega,ve7 (kjb7 (by omega)) (by simp -implicitDefEqProofs only [go_sem]) rfl (fun r h=>by subst h;rfl) ?_⟩
      rintro r rfl
      simp -implicitDefEqProofs only [go_sem]
      refine⟨by omega,⟨by omega,by omega⟩,j+1,by omega, ?_, ?_,by omega⟩
      ·rw[zd7,zd7,show 3+2*(j+1)=3+2*j+2 by omega];rfl
      ·rw[nj7];rfl
     ·obtain rfl:j=(xe7 s.plan k).stops.length:=by omega
      have hcw:=h.kCells k (xe7 s.plan k).stops.length
      have hrb:=(h.ride k).2.1
      have hbr:=h.bikesL k
      have hbk:=h.bikeL k
      have hbk':(rg7 [] (kCells (xe7 s.plan k) (fi7 s.times k) (xe7 s.plan k).stops.length++[(fi7 s.times k).back])).length≤1320089:=hbk
      refine⟨by omega,lj7 (zr7 (l:=kCells (xe7 s.plan k) (fi7 s.times k) (xe7 s.plan k).stops.length++[(fi7 s.times k).back]) (by rw[List.length_append,List.length_singleton];omega) (fun v hv=>(List.mem_append.1 hv).elim (hcw v) (fun e=>by rw[List.mem_singleton.1 e];exact hrb))) ⟨⟨by simp[Row.len],rfl⟩,trivial⟩ (by simp only[kj7,ts7,ap7,frz,da7];rw[of7 (by simp)]) (fun r h=>by subst h;rfl) ?_⟩
      rintro r rfl
      simp -implicitDefEqProofs only [go_sem,xp7]
      refine⟨by simp only[List.size_toArray,List.length_append]at hbk' ⊢; omega,⟨by omega,by omega⟩,k+1,by omega, ?_,by omega⟩
      rw[nl7,List.append_assoc];rfl
    ·have hu:fi7 s.times k=⟨0,[],0⟩:=un7 (by omega) _
     refine ie7 (ι:=Nat) [1,3,12,88,89,90,116,117] [13,118] (fun j=>j≤(xe7 s.plan k).stops.length) (fun j=>[.c (.h 5 0 (kCells (xe7 s.plan k) (fi7 s.times k) j).length),.c (I6 j)]) (fun j=>bdb7 s k [.int .i64 0,.nils,.int .i64 0] j) (fun j=>(xe7 s.plan k).stops.length-j) (by kernel_rfl) ⟨0,Nat.zero_le _,rfl,(by unfold bdb7 kCells;rw[hu];rfl)⟩ (fun _ _=>⟨rfl,rfl,rfl,rfl⟩) ?_
     intro j hj
     have hlen:=zd7 (xe7 s.plan k) (fi7 s.times k) j
     simp -implicitDefEqProofs only [go_sem,bdb7,mfb7,hr7,pg7,ee7,zb7]
     refine⟨fun h3=>?_,fun h3=>?_⟩
     ·refine⟨by omega,ybb7 (kjb7 (l:=[]) (k:=j) (by omega)) (by simp -implicitDefEqProofs only [go_sem]) ⟨_,_,rfl,.inr ⟨_,rfl,.inr (.inr ⟨_,_,rfl⟩)⟩,_,_,rfl,.inl rfl,rfl⟩ (fun r h=>by subst h;rfl) ?_⟩
      rintro r rfl
      simp -implicitDefEqProofs only [go_sem]
      refine⟨by omega,⟨by omega,by omega⟩,j+1,by omega, ?_, ?_,by omega⟩
      ·rw[zd7,zd7,show 3+2*(j+1)=3+2*j+2 by omega];rfl
      ·rw[nj7];unfold bItem;rw[hu]
     ·obtain rfl:j=(xe7 s.plan k).stops.length:=by omega
      have hcw:=h.kCells k (xe7 s.plan k).stops.length
      have hrb:=(h.ride k).2.1
      have hbr:=h.bikesL k
      have hbk:=h.bikeL k
      have hbk':(rg7 [] (kCells (xe7 s.plan k) (fi7 s.times k) (xe7 s.plan k).stops.length++[(fi7 s.times k).back])).length≤1320089:=hbk
      refine⟨by omega,lj7 (zr7 (l:=kCells (xe7 s.plan k) (fi7 s.times k) (xe7 s.plan k).stops.length++[(fi7 s.times k).back]) (by rw[List.length_append,List.length_singleton];omega) (fun v hv=>(List.mem_append.1 hv).elim (hcw v) (fun e=>by rw[List.mem_singleton.1 e];exact hrb))) ⟨⟨by simp[Row.len],rfl⟩,trivial⟩ (by simp only[kj7,ts7,ap7,frz,da7];rw[of7 (by simp)];rw[hu]) (fun r h=>by subst h;rfl) ?_⟩
      rintro r rfl
      simp -implicitDefEqProofs only [go_sem,xp7]
      refine⟨by simp only[List.size_toArray,List.length_append]at hbk' ⊢; omega,⟨by omega,by omega⟩,k+1,by omega, ?_,by omega⟩
      rw[nl7,List.append_assoc];rfl
   ·obtain rfl:k=s.plan.bikes.length:=by omega
    have hbr:=h.bikesL s.plan.bikes.length
    exact⟨by simp;omega,by rw[xp7];rfl⟩
end Go.Proofs.YtabadfkikdefeaaGreat.Ab
