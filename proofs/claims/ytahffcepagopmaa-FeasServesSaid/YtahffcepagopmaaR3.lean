/- Texts of the proof, joined: SoonM, Pc2, Same18, LawK, MoreK, MovedF, Up, Moved, MvLaw, Cost17, Pc3. -/
import Derived.Laws.IdiomCopy
import Derived.Test.YtahffcepagopmaaCan
set_option linter.all false
set_option maxRecDepth 100000
set_option maxHeartbeats 6400000
namespace Go.Proofs.Ytahffcepagopmaa.Ab
open Go.RowKit
def tsH (id:Nat):List (List Int) → AV
 | [] => .nils
 | l => .h id 0 l.length
theorem lk7 {n:Nat} {ids:List Nat} (h:5 < n) (l:List (List Int)):ow7 n ids (tsH 5 l) = tsH 5 l:=by
 cases l with
 | nil=>rfl
 | cons a l=>simp [tsH,ow7,ojb7,h,mkH]
def amb7:List Int → AV
 | [] => .nils
 | l=>bi7 l
def tsR:List (List Int) → Root
 | [] => .dead
 | l => .live false 65 1 (.gen (l.map fun r=>[amb7 r]))
def qwb7 (x:ba7) (p:sa7) (ts:List (List Int)) (ready:List Int):List Root :=
 [.live false 39 9 (.box (qf7 x)), .live false 44 2 (.box (if7 p)), .live false 50 2 (.box [.nils, .nils]), .live false 50 2 (.box [tsH 5 ts, .nils]), .live false 2 1 (.ints .i64 ready),tsR ts]
def lH (id:Nat):List Int → AV
 | [] => .nils
 | l => .h id 0 l.length
def lR:List Int → Root
 | [] => .dead
 | l => .live false 2 1 (.ints .i64 l)
theorem al7 {n:Nat} {ids:List Nat} (l:List (List Int)):wf7 n ids (tsR l) = tsR l:=by
 cases l <;> rfl
def myb7 (x:ba7) (p:sa7) (ts:List (List Int)) (t:List da7) (ready l:List Int):List Root :=
 [.live false 39 9 (.box (qf7 x)), .live false 44 2 (.box (if7 p)), .live false 50 2 (.box [.nils, .nils]), .live false 50 2 (.box [tsH 5 ts, .nils]), .live false 2 1 (.ints .i64 ready),tsR ts, .live false 62 1 (.box [cu7 t]),lR l]
def bsH (id:Nat):List zc7 → AV
 | [] => .nils
 | l => .h id 0 l.length
def bsR:List zc7 → Root
 | [] => .dead
 | l => .live false 67 3 (.gen (l.map fun r=>[I6 r.out,amb7 r.starts,I6 r.back]))
def rk7 (x:ba7) (p:sa7) (ts:List (List Int)) (ready:List Int) (rs:List zc7):List Root :=
 [.live false 39 9 (.box (qf7 x)), .live false 44 2 (.box (if7 p)), .live false 50 2 (.box [.nils, .nils]), .live false 50 2 (.box [tsH 5 ts,bsH 6 rs]), .live false 2 1 (.ints .i64 ready),tsR ts,bsR rs]
def sib7 (x:ba7) (p:sa7) (ts:List (List Int)) (ready:List Int) (rs:List zc7) (b:pa7) (out:Int) (l:List Int):List Root :=
 rk7 x p ts ready rs ++ [.live false 59 2 (.box [I6 b.sat,bi7 b.stops]), .live false 67 3 (.box [I6 out,lH 9 l,I6 0]),lR l]
def upN (x:ba7) (A:SnA) (t:List da7) (j:Nat):SnT:=(t.take j).foldl (dc7 x) ⟨0,0,A.ready,[]⟩
theorem cnb7 (l:List Int):Eqv (amb7 l) (bi7 l):=by
 cases l with
 | nil=>exact .inr ⟨1,_,rfl⟩
 | cons v l=>exact ⟨_,rfl,fun i _ j _=>rfl⟩
theorem dtb7 (l:List (List Int)):Eqv (.sl l.length 1 fun i j=>nth ((l.map fun r=>[amb7 r]).getD i []) j) (.sl l.length 1 fun i _=>bi7 (l.getD i [])) :=
 ⟨_,rfl,fun i hi j hj=>by
  obtain rfl:j = 0:=by omega
  dsimp only
  rw [of7 (by simpa using hi),of7 hi,List.getElem_map]
  exact cnb7 _⟩
theorem wsb7 (l:List zc7):Eqv (.sl l.length 3 fun i j=>nth ((l.map fun r=>[I6 r.out,amb7 r.starts,I6 r.back]).getD i []) j) (.sl l.length 3 fun i=>ix3 (I6 (l.getD i ⟨0,[],0⟩).out) (bi7 (l.getD i ⟨0,[],0⟩).starts) (I6 (l.getD i ⟨0,[],0⟩).back)) :=
 ⟨_,rfl,fun i hi j hj=>by
  dsimp only
  rw [of7 (by simpa using hi),of7 hi,List.getElem_map]
  match j,hj with
  | 0,_=>exact rfl
  | 1,_=>exact cnb7 _
  | 2,_=>exact rfl⟩
def bkN (x:ba7) (ready:List Int) (b:pa7) (j:Nat):SnB:=(b.stops.take j).foldl (ec7 x) ⟨ready.getD b.sat.toNat 0,1 + b.sat,[]⟩
theorem ozb7 {x:ba7} {p:sa7} (ok:gs7 x p):zi7 Try.prog 11 [.agg (qf7 x), .agg (if7 p)] (fun r=>r = .agg (dd7 (za7 x p))):=by
 have gd:=ok.good
 have hs1:=gd.sats; have hc1:=gd.custs; have hf1:=gd.fin; have htl:=ok.tl; have hbl:=ok.bl
 have hndx:nodes x = 1 + x.sats.length + x.custs.length:=rfl
 refine kk7 xy7 (by kernel_rfl) (fun n=>match n with | 13=>([],1,none) | 25=>([0,1,2,3,4,5,6,7,12,13,14,15,16,17,8,9,10,11,18,19],0,none) | 29=>([],1,none) | _=>([],0,none)) Try.func11 rfl (by kernel_rfl) Try.ntmps11 (congrArg Array.toList Try.results11) (by kernel_rfl) (by simp) ?_
 simp -implicitDefEqProofs only [go_sem, ↓reduceIte,reduceCtorEq,Nat.reduceAdd,Nat.reduceLT,Nat.reduceEqDiff,Nat.reduceMul,Nat.reduceLeDiff,Nat.reduceSub,qf7,if7]
 refine ⟨by omega, ?_⟩
 refine cp7 (ι:=Nat) 1 [2,3,4,5,6,26,27] [28] (fun k=>k ≤ p.trucks.length) (fun k=>[.c (I6 k)]) (fun k=>qwb7 x p (jb7 x (p.trucks.take k)).ts (jb7 x (p.trucks.take k)).ready) (fun k=>p.trucks.length - k) (by kernel_rfl) ⟨0,Nat.zero_le _,rfl,rfl⟩ (fun k _=>rfl) ?_
 intro k hk
 simp -implicitDefEqProofs only [go_sem, ↓reduceIte,reduceCtorEq,Nat.reduceAdd,Nat.reduceLT,Nat.reduceEqDiff,Nat.reduceMul,Nat.reduceLeDiff,Nat.reduceSub,qwb7,qf7,if7]
 refine ⟨fun h => ?_,fun h => ?_⟩
 ·have hlt:k < p.trucks.length:=by omega
  have hst:=ok.t1 _ (ub7 hlt [])
  obtain ⟨hab,hts⟩:=dj7 ok k hk
  have hst1:(tc7 p k).length ≤ 100000:=hst.1
  have hst2:∀ j,j < (tc7 p k).length → 0 ≤ (stN (tc7 p k) j).sat ∧ (stN (tc7 p k) j).sat < x.sats.length:=fun j hj=>hst.2 _ (ub7 hj _)
  generalize hA:jb7 x (p.trucks.take k) = A at hab hts
  obtain ⟨rdy0,ts⟩:=A
  simp only [] at hts
  refine ⟨by omega, ?_⟩
  refine cp7 (ι:=Nat) 1 [2,3,4,5,6,26,27,28,33,34] [9,10,11,35] (fun j=>j ≤ (tc7 p k).length) (fun j=>[.c (I6 (upN x ⟨rdy0,ts⟩ (tc7 p k) j).now), .c (I6 (upN x ⟨rdy0,ts⟩ (tc7 p k) j).node), .c (lH 7 (upN x ⟨rdy0,ts⟩ (tc7 p k) j).l), .c (I6 j)]) (fun j=>myb7 x p ts (tc7 p k) (upN x ⟨rdy0,ts⟩ (tc7 p k) j).ready (upN x ⟨rdy0,ts⟩ (tc7 p k) j).l) (fun j=>(tc7 p k).length - j) (by kernel_rfl) ⟨0,Nat.zero_le _,rfl,rfl⟩ (fun k _=>rfl) ?_
  intro j hj
  have hup:upN x ⟨rdy0,ts⟩ (tc7 p k) (j + 1) = if h:j < (tc7 p k).length then dc7 x (upN x ⟨rdy0,ts⟩ (tc7 p k) j) (stN (tc7 p k) j) else upN x ⟨rdy0,ts⟩ (tc7 p k) j:=by
   unfold upN
   split
   ·rename_i h
    rw [List.take_succ_eq_append_getElem h,List.foldl_append]
    show dc7 x _ _ = dc7 x _ _
    unfold stN
    rw [of7 h]
   ·rename_i h
    rw [List.take_of_length_le (by omega),List.take_of_length_le (by omega)]
  obtain ⟨hbd,hln⟩:=mo7 gd (t:=tc7 p k) (fbc7.start x ⟨rdy0,ts⟩ hab) rfl ⟨hst.1,hst.2⟩ j hj
  have hbd:irb7 x (upN x ⟨rdy0,ts⟩ (tc7 p k) j):=hbd
  have hln:(upN x ⟨rdy0,ts⟩ (tc7 p k) j).l.length = j:=hln
  generalize hsu:upN x ⟨rdy0,ts⟩ (tc7 p k) j = st at hup hbd hln
  obtain ⟨now,node,ready,l⟩:=st
  have hrl:ready.length = x.sats.length:=hbd.len
  have hln:l.length = j:=hln
  have hend:j = (tc7 p k).length → jb7 x (p.trucks.take (k + 1)) = ⟨ready,ts ++ [l]⟩:=fun e=>by
   subst e
   have h1:ri7 x ⟨rdy0,ts⟩ (tc7 p k) = ⟨now,node,ready,l⟩:=by rw [← hsu]; unfold upN ri7; rw [List.take_length]
   have h2:jb7 x (p.trucks.take (k + 1)) = zd7 x (jb7 x (p.trucks.take k)) (tc7 p k):=by
    unfold jb7 tc7
    rw [List.take_succ_eq_append_getElem hlt,List.foldl_append,of7 hlt]; rfl
   rw [h2,hA]; unfold zd7; rw [h1]
  have hs:=fun h=>hst2 j h
  have hn:=hbd.now; have hnd:=hbd.node; have tb:=nb7 gd node (1 + (stN (tc7 p k) j).sat); have hb:=go7 gd (stN (tc7 p k) j).sat; have tb0:=nb7 gd node 0
  have hjl1:l.length ≤ 100000:=by omega
  clear hsu
  rcases l with _ | ⟨v,l⟩ <;> rcases ts with _ | ⟨a,ts⟩
  all_goals
   simp -implicitDefEqProofs only [go_sem, ↓reduceIte,reduceCtorEq,Nat.reduceAdd,Nat.reduceLT,Nat.reduceEqDiff,Nat.reduceMul,Nat.reduceLeDiff,Nat.reduceSub,myb7,qf7,if7,lH,lR,tsH,tsR]
   refine ⟨fun h2 => ?_,fun h2 => ?_⟩
  ·have hjl:j < (tc7 p k).length:=by omega
   rw [dif_pos hjl] at hup
   have hs:=hs hjl
   simp only [List.length_nil] at hn hnd
   refine ⟨by omega,hnd,by omega,by omega,by omega,by omega,⟨by omega,by omega⟩,by omega,by omega,by omega,⟨by omega,by omega⟩,by omega,by omega,j + 1,[10],by omega,⟨rfl,rfl⟩, ?_, ?_,by omega⟩
   ·rw [hup]; rfl
   ·rw [hup]; rfl
  ·have hend:=hend (by omega)
   refine ⟨by omega,k + 1,[9],by omega,⟨rfl,rfl⟩,rfl, ?_,by omega⟩
   rw [hend]; rfl
  ·have hjl:j < (tc7 p k).length:=by omega
   rw [dif_pos hjl] at hup
   have hs:=hs hjl
   simp only [List.length_nil] at hn hnd
   refine ⟨by omega,hnd,by omega,by omega,by omega,by omega,⟨by omega,by omega⟩,by omega,by omega,by omega,⟨by omega,by omega⟩,by omega,by omega,j + 1,[10],by omega,⟨rfl,rfl⟩, ?_, ?_,by omega⟩
   ·rw [hup]; rfl
   ·rw [hup]; rfl
  ·have hend:=hend (by omega)
   simp only [List.length_cons] at hts
   refine ⟨⟨by simp,by omega⟩,by omega,k + 1,[5],by omega,⟨rfl,rfl⟩,rfl, ?_,by omega⟩
   rw [hend]; simp [cr7,ea7,wf7,rs7,pos,mkH,amb7]
  ·have hjl:j < (tc7 p k).length:=by omega
   rw [dif_pos hjl] at hup
   have hs:=hs hjl
   simp only [List.length_cons] at hn hnd hln hjl1
   refine ⟨by omega,hnd,by omega,by omega,by omega,by omega,by omega,⟨by omega,by omega⟩,by omega,by omega,by omega,⟨by omega,by omega⟩,by omega,by omega,j + 1,[7],by omega,⟨rfl,rfl⟩, ?_, ?_,by omega⟩
   ·rw [hup]; simp [dc7,pos,mkH]
   ·rw [hup]; simp [dc7,cr7,ea7,wf7,rs7]
  ·have hend:=hend (by omega)
   refine ⟨by omega,k + 1,[9],by omega,⟨rfl,rfl⟩,rfl, ?_,by omega⟩
   rw [hend]; rfl
  ·have hjl:j < (tc7 p k).length:=by omega
   rw [dif_pos hjl] at hup
   have hs:=hs hjl
   simp only [List.length_cons] at hn hnd hln hjl1
   refine ⟨by omega,hnd,by omega,by omega,by omega,by omega,by omega,⟨by omega,by omega⟩,by omega,by omega,by omega,⟨by omega,by omega⟩,by omega,by omega,j + 1,[7],by omega,⟨rfl,rfl⟩, ?_, ?_,by omega⟩
   ·rw [hup]; simp [dc7,pos,mkH]
   ·rw [hup]; simp [dc7,cr7,ea7,wf7,rs7]
  ·have hend:=hend (by omega)
   simp only [List.length_cons] at hts
   refine ⟨⟨by simp,by omega⟩,by omega,k + 1,[5],by omega,⟨rfl,rfl⟩,rfl, ?_,by omega⟩
   rw [hend]; simp [cr7,ea7,wf7,rs7,pos,mkH,amb7]
 ·obtain rfl:k = p.trucks.length:=by omega
  obtain ⟨hab,hts⟩:=dj7 ok _ (Nat.le_refl _)
  have hsd:za7 x p = ⟨(jb7 x p.trucks).ts,p.bikes.map (xg7 x (jb7 x p.trucks).ready)⟩:=rfl
  rw [List.take_length] at hab hts ⊢
  generalize jb7 x p.trucks = A at hab hts hsd
  obtain ⟨ready,ts⟩:=A
  simp only [] at hts hsd
  have hrl:ready.length = x.sats.length:=hab.len
  rw [hsd]
  clear hsd
  refine cp7 (ι:=Nat) 1 [2,4,5,6,86,87] [88] (fun k=>k ≤ p.bikes.length) (fun k=>[.c (I6 k)]) (fun k=>rk7 x p ts ready ((p.bikes.take k).map (xg7 x ready))) (fun k=>p.bikes.length - k) (by kernel_rfl) ⟨0,Nat.zero_le _,rfl,rfl⟩ (fun k _=>rfl) ?_
  intro k hk
  generalize hrs:(p.bikes.take k).map (xg7 x ready) = rs
  simp -implicitDefEqProofs only [go_sem, ↓reduceIte,reduceCtorEq,Nat.reduceAdd,Nat.reduceLT,Nat.reduceEqDiff,Nat.reduceMul,Nat.reduceLeDiff,Nat.reduceSub,rk7,qf7,if7]
  refine ⟨fun h => ?_,fun h => ?_⟩
  ·have hlt:k < p.bikes.length:=by omega
   have hb1:=ok.b1 _ (ub7 hlt ⟨0,[]⟩)
   have hsat:0 ≤ (sc7 p k).sat ∧ (sc7 p k).sat < x.sats.length:=hb1.2.1
   have hsl:(sc7 p k).stops.length ≤ 100000:=hb1.1
   have hco:∀ j,j < (sc7 p k).stops.length → bc7 x ((sc7 p k).stops.getD j 0):=fun j hj=>hb1.2.2 _ (ub7 hj _)
   refine ⟨by omega,⟨⟨by omega,by omega⟩,by omega⟩,by omega,by omega, ?_⟩
   refine cp7 (ι:=Nat) 1 [2,4,5,6,15,16,86,87,88,104,105] [17,18,106] (fun j=>j ≤ (sc7 p k).stops.length) (fun j=>[.c (I6 (bkN x ready (sc7 p k) j).now), .c (I6 (bkN x ready (sc7 p k) j).node), .c (I6 j)]) (fun j=>sib7 x p ts ready rs (sc7 p k) (ready.getD (sc7 p k).sat.toNat 0) (bkN x ready (sc7 p k) j).starts) (fun j=>(sc7 p k).stops.length - j) (by kernel_rfl) ⟨0,Nat.zero_le _,rfl,rfl⟩ (fun k _=>rfl) ?_
   intro j hj
   have hup:j < (sc7 p k).stops.length → bkN x ready (sc7 p k) (j + 1) = ec7 x (bkN x ready (sc7 p k) j) ((sc7 p k).stops.getD j 0):=fun h=>by
    unfold bkN
    rw [List.take_succ_eq_append_getElem h,List.foldl_append,of7 h]; rfl
   have hend:j = (sc7 p k).stops.length → (p.bikes.take (k + 1)).map (xg7 x ready) = rs ++ [⟨ready.getD (sc7 p k).sat.toNat 0,(bkN x ready (sc7 p k) j).starts,(bkN x ready (sc7 p k) j).now + va7 x (bkN x ready (sc7 p k) j).node (1 + (sc7 p k).sat)⟩]:=fun e=>by
    subst e
    rw [List.take_succ_eq_append_getElem hlt,List.map_append,hrs]
    unfold bkN
    rw [List.take_length]
    have:sc7 p k = p.bikes[k]:=of7 hlt _
    rw [this]; rfl
   obtain ⟨hbd,hln⟩:=xo7 gd (t:=(sc7 p k).stops) (au7 hrl hab.rdy hsat) rfl ⟨hb1.1,hb1.2.2⟩ j hj
   have hbd:aub7 x (bkN x ready (sc7 p k) j):=hbd
   have hln:(bkN x ready (sc7 p k) j).starts.length = j:=hln
   generalize bkN x ready (sc7 p k) j = st at hup hend hbd hln
   obtain ⟨now,node,l⟩:=st
   have hln:l.length = j:=hln
   have hn:=hbd.now; have hnd:=hbd.node
   have tb:=nb7 gd node (1 + x.sats.length + (sc7 p k).stops.getD j 0); have tb0:=nb7 gd node (1 + (sc7 p k).sat)
   rcases l with _ | ⟨v,l⟩ <;> rcases rs with _ | ⟨a,rs⟩
   all_goals
    simp -implicitDefEqProofs only [go_sem, ↓reduceIte,reduceCtorEq,Nat.reduceAdd,Nat.reduceLT,Nat.reduceEqDiff,Nat.reduceMul,Nat.reduceLeDiff,Nat.reduceSub,sib7,rk7,qf7,if7,lH,lR,al7,bsH,bsR,lk7 (show 5 < 9 by decide)]
    refine ⟨fun h2 => ?_,fun h2 => ?_⟩
   ·have hjl:j < (sc7 p k).stops.length:=by omega
    have hup:=hup hjl
    have hcj:=hco j hjl
    have cb:=wr7 gd hcj
    simp only [List.length_nil] at hn hnd
    refine ⟨by omega,hnd,hcj, ?_⟩
    refine rc7 (mjb7 x hcj gd) ⟨trivial,trivial,trivial⟩ rfl (fun r h=>by subst h; rfl) ?_
    rintro r rfl
    simp -implicitDefEqProofs only [go_sem, ↓reduceIte,reduceCtorEq,Nat.reduceAdd,Nat.reduceLT,Nat.reduceEqDiff,Nat.reduceMul,Nat.reduceLeDiff,Nat.reduceSub]
    unfold bc7 at hcj
    refine ⟨by omega,by omega,by omega,by omega, ?_⟩
    refine rc7 (mjb7 x hcj gd) ⟨trivial,trivial,trivial⟩ rfl (fun r h=>by subst h; rfl) ?_
    rintro r rfl
    refine ⟨by omega,j + 1,[11],by omega,⟨rfl,rfl⟩, ?_, ?_,by omega⟩
    ·rw [hup]; rfl
    ·rw [hup]; simp -implicitDefEqProofs only [go_sem, ↓reduceIte,reduceCtorEq,Nat.reduceAdd,Nat.reduceLT,Nat.reduceEqDiff,Nat.reduceMul,Nat.reduceLeDiff,Nat.reduceSub,ec7,sib7,rk7,bsH,bsR,lH,lR,al7,lk7 (show 5 < 9 by decide),qf7,if7,List.nil_append,List.cons_append,List.length_append]
   ·have hend:=hend (by omega)
    simp only [List.length_nil] at hn hnd
    refine ⟨hnd,by omega,by omega,by omega,by omega,k + 1,[11],by omega,⟨rfl,rfl⟩,rfl, ?_,by omega⟩
    rw [hend]; simp -implicitDefEqProofs only [go_sem, ↓reduceIte,reduceCtorEq,Nat.reduceAdd,Nat.reduceLT,Nat.reduceEqDiff,Nat.reduceMul,Nat.reduceLeDiff,Nat.reduceSub,rk7,bsH,bsR,amb7,al7,lk7 (show 5 < 6 by decide),qf7,if7,List.nil_append,List.cons_append,List.length_append,List.map_append]
   ·have hjl:j < (sc7 p k).stops.length:=by omega
    have hup:=hup hjl
    have hcj:=hco j hjl
    have cb:=wr7 gd hcj
    simp only [List.length_nil] at hn hnd
    refine ⟨by omega,hnd,hcj, ?_⟩
    refine rc7 (mjb7 x hcj gd) ⟨trivial,trivial,trivial⟩ rfl (fun r h=>by subst h; rfl) ?_
    rintro r rfl
    simp -implicitDefEqProofs only [go_sem, ↓reduceIte,reduceCtorEq,Nat.reduceAdd,Nat.reduceLT,Nat.reduceEqDiff,Nat.reduceMul,Nat.reduceLeDiff,Nat.reduceSub]
    unfold bc7 at hcj
    refine ⟨by omega,by omega,by omega,by omega, ?_⟩
    refine rc7 (mjb7 x hcj gd) ⟨trivial,trivial,trivial⟩ rfl (fun r h=>by subst h; rfl) ?_
    rintro r rfl
    refine ⟨by omega,j + 1,[11],by omega,⟨rfl,rfl⟩, ?_, ?_,by omega⟩
    ·rw [hup]; rfl
    ·rw [hup]; simp -implicitDefEqProofs only [go_sem, ↓reduceIte,reduceCtorEq,Nat.reduceAdd,Nat.reduceLT,Nat.reduceEqDiff,Nat.reduceMul,Nat.reduceLeDiff,Nat.reduceSub,ec7,sib7,rk7,bsH,bsR,lH,lR,al7,lk7 (show 5 < 9 by decide),qf7,if7,List.nil_append,List.cons_append,List.length_append]
   ·have hend:=hend (by omega)
    simp only [List.length_nil] at hn hnd
    have hlr:rs.length + 1 = k:=by have:=congrArg List.length hrs; simp at this; omega
    refine ⟨hnd,by omega,by omega,by omega,⟨by simp,by omega⟩,by omega,k + 1,[6],by omega,⟨rfl,rfl⟩,rfl, ?_,by omega⟩
    rw [hend]; simp -implicitDefEqProofs only [go_sem, ↓reduceIte,reduceCtorEq,Nat.reduceAdd,Nat.reduceLT,Nat.reduceEqDiff,Nat.reduceMul,Nat.reduceLeDiff,Nat.reduceSub,rk7,bsH,bsR,amb7,al7,lk7 (show 5 < 6 by decide),qf7,if7,List.nil_append,List.cons_append,List.length_append,List.map_append]
   ·have hjl:j < (sc7 p k).stops.length:=by omega
    have hup:=hup hjl
    have hcj:=hco j hjl
    have cb:=wr7 gd hcj
    simp only [List.length_cons] at hn hnd hln
    refine ⟨by omega,hnd,hcj, ?_⟩
    refine rc7 (mjb7 x hcj gd) ⟨trivial,trivial,trivial⟩ rfl (fun r h=>by subst h; rfl) ?_
    rintro r rfl
    simp -implicitDefEqProofs only [go_sem, ↓reduceIte,reduceCtorEq,Nat.reduceAdd,Nat.reduceLT,Nat.reduceEqDiff,Nat.reduceMul,Nat.reduceLeDiff,Nat.reduceSub]
    unfold bc7 at hcj
    refine ⟨by omega,by omega,by omega,by omega,by omega, ?_⟩
    refine rc7 (mjb7 x hcj gd) ⟨trivial,trivial,trivial⟩ rfl (fun r h=>by subst h; rfl) ?_
    rintro r rfl
    refine ⟨by omega,j + 1,[9],by omega,⟨rfl,rfl⟩, ?_, ?_,by omega⟩
    ·rw [hup]; rfl
    ·rw [hup]; simp -implicitDefEqProofs only [go_sem, ↓reduceIte,reduceCtorEq,Nat.reduceAdd,Nat.reduceLT,Nat.reduceEqDiff,Nat.reduceMul,Nat.reduceLeDiff,Nat.reduceSub,ec7,sib7,rk7,bsH,bsR,lH,lR,al7,lk7 (show 5 < 9 by decide),qf7,if7,List.nil_append,List.cons_append,List.length_append]
   ·have hend:=hend (by omega)
    simp only [List.length_cons] at hn hnd hln
    refine ⟨hnd,by omega,by omega,by omega,by omega,k + 1,[11],by omega,⟨rfl,rfl⟩,rfl, ?_,by omega⟩
    rw [hend]; simp -implicitDefEqProofs only [go_sem, ↓reduceIte,reduceCtorEq,Nat.reduceAdd,Nat.reduceLT,Nat.reduceEqDiff,Nat.reduceMul,Nat.reduceLeDiff,Nat.reduceSub,rk7,bsH,bsR,amb7,al7,lk7 (show 5 < 6 by decide),qf7,if7,List.nil_append,List.cons_append,List.length_append,List.map_append]; rfl
   ·have hjl:j < (sc7 p k).stops.length:=by omega
    have hup:=hup hjl
    have hcj:=hco j hjl
    have cb:=wr7 gd hcj
    simp only [List.length_cons] at hn hnd hln
    refine ⟨by omega,hnd,hcj, ?_⟩
    refine rc7 (mjb7 x hcj gd) ⟨trivial,trivial,trivial⟩ rfl (fun r h=>by subst h; rfl) ?_
    rintro r rfl
    simp -implicitDefEqProofs only [go_sem, ↓reduceIte,reduceCtorEq,Nat.reduceAdd,Nat.reduceLT,Nat.reduceEqDiff,Nat.reduceMul,Nat.reduceLeDiff,Nat.reduceSub]
    unfold bc7 at hcj
    refine ⟨by omega,by omega,by omega,by omega,by omega, ?_⟩
    refine rc7 (mjb7 x hcj gd) ⟨trivial,trivial,trivial⟩ rfl (fun r h=>by subst h; rfl) ?_
    rintro r rfl
    refine ⟨by omega,j + 1,[9],by omega,⟨rfl,rfl⟩, ?_, ?_,by omega⟩
    ·rw [hup]; rfl
    ·rw [hup]; simp -implicitDefEqProofs only [go_sem, ↓reduceIte,reduceCtorEq,Nat.reduceAdd,Nat.reduceLT,Nat.reduceEqDiff,Nat.reduceMul,Nat.reduceLeDiff,Nat.reduceSub,ec7,sib7,rk7,bsH,bsR,lH,lR,al7,lk7 (show 5 < 9 by decide),qf7,if7,List.nil_append,List.cons_append,List.length_append]
   ·have hend:=hend (by omega)
    simp only [List.length_cons] at hn hnd hln
    have hlr:rs.length + 1 = k:=by have:=congrArg List.length hrs; simp at this; omega
    refine ⟨hnd,by omega,by omega,by omega,⟨by simp,by omega⟩,by omega,k + 1,[6],by omega,⟨rfl,rfl⟩,rfl, ?_,by omega⟩
    rw [hend]; simp -implicitDefEqProofs only [go_sem, ↓reduceIte,reduceCtorEq,Nat.reduceAdd,Nat.reduceLT,Nat.reduceEqDiff,Nat.reduceMul,Nat.reduceLeDiff,Nat.reduceSub,rk7,bsH,bsR,amb7,al7,lk7 (show 5 < 6 by decide),qf7,if7,List.nil_append,List.cons_append,List.length_append,List.map_append]; rfl
  ·obtain rfl:k = p.bikes.length:=by omega
   rw [List.take_length] at hrs
   rw [hrs]
   rcases ts with _ | ⟨a,ts⟩ <;> rcases rs with _ | ⟨b,rs⟩
   all_goals simp -implicitDefEqProofs only [go_sem, ↓reduceIte,reduceCtorEq,Nat.reduceAdd,Nat.reduceLT,Nat.reduceEqDiff,Nat.reduceMul,Nat.reduceLeDiff,Nat.reduceSub,tsH,tsR,bsH,bsR]
   ·exact ⟨_,⟨_,rfl,_,_,rfl, .inr (.inr ⟨1,_,rfl⟩),_,_,rfl, .inr (.inr ⟨3,_,rfl⟩),rfl⟩,rfl⟩
   ·exact ⟨by simp,_,⟨_,rfl,_,_,rfl, .inr (.inr ⟨1,_,rfl⟩),_,_,rfl, .inr (wsb7 (b :: rs)),rfl⟩,rfl⟩
   ·exact ⟨by simp,_,⟨_,rfl,_,_,rfl, .inr (dtb7 (a :: ts)),_,_,rfl, .inr (.inr ⟨3,_,rfl⟩),rfl⟩,rfl⟩
   ·exact ⟨⟨by simp,by simp⟩,_,⟨_,rfl,_,_,rfl, .inr (dtb7 (a :: ts)),_,_,rfl, .inr (wsb7 (b :: rs)),rfl⟩,rfl⟩
def ibb7 (l:List (List da7)):Nat:=(l.map List.length).sum
theorem rub7 (l:List (List da7)):ya7 l l.length = ibb7 l:=by unfold ya7 ibb7; rw [List.take_length]
theorem pgb7 (a:List da7):∀ (l:List (List da7)) (t:Nat),ibb7 (l.set t a) ≤ ibb7 l + a.length
 | [],t=>by simp [ibb7]
 | b :: l,0=>by simp [ibb7]; omega
 | b :: l,t + 1=>by have:=pgb7 a l t; simp only [ibb7,List.set_cons_succ,List.map_cons,List.sum_cons] at this ⊢; omega
theorem jgb7:∀ (l:List (List da7)) (t:Nat),(l.getD t []).length ≤ ibb7 l
 | [],t=>by simp [ibb7]
 | b :: l,0=>by simp [ibb7]
 | b :: l,t + 1=>by have:=jgb7 l t; simp only [ibb7,List.getD_cons_succ,List.map_cons,List.sum_cons] at this ⊢; omega
theorem bcb7 {p:sa7} (h:pz7 p) (hs:ibb7 p.trucks ≤ 20000) (what at_:Nat) (hat:at_ ≤ 255) {by_:Int} (hby : -128 ≤ by_ ∧ by_ ≤ 127):ibb7 (rb7 p what at_ by_).trucks ≤ 100000 ∧ ∀ t ∈ (rb7 p what at_ by_).trucks, ∀ s ∈ t,yg7 s:=by
 have base:∀ t ∈ p.trucks, ∀ s ∈ t,yg7 s:=(bob7 h).trucks
 have small:∀ T, ∀ s ∈ p.trucks.getD T [],(-1000000000 ≤ s.sat ∧ s.sat ≤ 1000000000) ∧ -1000000000 ≤ s.load ∧ s.load ≤ 1000000000:=fun T s hm=>by
  rw [List.getD_eq_getElem?_getD] at hm
  by_cases hT:T < p.trucks.length
  ·rw [List.getElem?_eq_getElem hT] at hm; exact (h.ts _ (List.getElem_mem hT)).2 s hm
  ·rw [List.getElem?_eq_none (by omega)] at hm; cases hm
 have hset:∀ (T:Nat) (a:List da7),a.length ≤ 20001 → (∀ s ∈ a,yg7 s) → ibb7 (p.trucks.set T a) ≤ 100000 ∧ ∀ t ∈ p.trucks.set T a, ∀ s ∈ t,yg7 s:=fun T a h1 h2=>by
  refine ⟨by have:=pgb7 a p.trucks T; omega,fun t ht => ?_⟩
  rcases List.mem_or_eq_of_mem_set ht with h' | rfl
  ·exact base t h'
  ·exact h2
 unfold rb7
 split
 ·exact ⟨by omega,base⟩
 ·show ibb7 (dbb7 p _ _ _ (at_:Int) by_) ≤ 100000 ∧ ∀ t ∈ dbb7 p _ _ _ (at_:Int) by_, ∀ s ∈ t,yg7 s
  generalize at_ % p.trucks.length = T
  generalize (at_ / 3) % _ = K
  have hg:=small T
  have hgl:=jgb7 p.trucks T
  unfold dbb7
  generalize p.trucks.getD T [] = tl at *
  have hw:∀ s ∈ tl,yg7 s:=fun s hm=>by have:=hg s hm; unfold yg7 ua7; omega
  have hK:(-1000000000 ≤ (tl.getD K ⟨0,0⟩).sat ∧ (tl.getD K ⟨0,0⟩).sat ≤ 1000000000) ∧ -1000000000 ≤ (tl.getD K ⟨0,0⟩).load ∧ (tl.getD K ⟨0,0⟩).load ≤ 1000000000:=by
   rw [List.getD_eq_getElem?_getD]
   by_cases hK:K < tl.length
   ·rw [List.getElem?_eq_getElem hK]; exact hg _ (List.getElem_mem hK)
   ·rw [List.getElem?_eq_none (by omega)]; simp
  generalize tl.getD K ⟨0,0⟩ = st at *
  have happ:∀ u,yg7 u → ∀ s ∈ tl ++ [u],yg7 s:=fun u hu s hm=>by
   rcases List.mem_append.1 hm with hm | hm
   ·exact hw s hm
   ·obtain rfl:=List.mem_singleton.1 hm; exact hu
  have hst:∀ u,yg7 u → ∀ s ∈ tl.set K u,yg7 s:=fun u hu s hm=>by
   rcases List.mem_or_eq_of_mem_set hm with hm | rfl
   ·exact hw s hm
   ·exact hu
  split
  ·exact hset _ _ (by rw [List.length_set]; omega) (hst _ (by unfold yg7 ua7; simp only; omega))
  ·exact hset _ _ (by rw [List.length_set]; omega) (hst _ (by unfold yg7 ua7; simp only; omega))
  ·exact hset _ _ (by rw [List.length_append,List.length_singleton]; omega) (happ _ (by unfold yg7 ua7; simp only; omega))
  ·refine ⟨by simp [ibb7] at hs ⊢; omega,fun t ht => ?_⟩
   rcases List.mem_append.1 ht with ht | ht
   ·exact base t ht
   ·obtain rfl:=List.mem_singleton.1 ht; intro s hs; cases hs
  ·exact hset _ _ (by rw [List.length_append,List.length_singleton]; omega) (happ _ (by unfold yg7 ua7; simp only; omega))
  ·exact ⟨by omega,base⟩
structure POk (p:sa7):Prop where
 wf:dx7 p
 small:yb7 p
theorem qhb7 {x:ba7} (w:uf7) (hns:1 ≤ x.sats.length ∧ x.sats.length ≤ 3) (hnc:1 ≤ x.custs.length ∧ x.custs.length ≤ 6) (hcl:∀ c ∈ x.custs,1 ≤ c.load ∧ c.load ≤ 1000):ibb7 (yh7 x w).trucks ≤ 18000:=by
 have hol:(kg7 x w).length = x.custs.length:=oh7 _ _
 have hk:=xj7 (x:=x) w (os:=kg7 x w) (fun c hc=>by have:=hcl c hc; omega) (by omega) (hk7 _ _) (kg7 x w).length (Nat.le_refl _)
 have hlv:∀ s,(zb7 x w).1.getD s 0 ≤ 6000:=fun s=>by
  rw [List.getD_eq_getElem?_getD]
  by_cases hs:s < (zb7 x w).1.length
  ·rw [List.getElem?_eq_getElem hs]
   have:=hk.loB _ (List.getElem_mem hs)
   exact Int.le_trans this.2 (by rw [hol]; omega)
  ·rw [List.getElem?_eq_none (by omega)]; simp
 have hd:=beb7 (x:=x) (w:=w) hlv (zb7 x w).1.length
 have hll:(zb7 x w).1.length ≤ 3:=by unfold zb7; rw [hk.loL]; omega
 have h3:6000 * (zb7 x w).1.length ≤ 6000 * 3:=Nat.mul_le_mul_left _ hll
 show ((dUp x w (zb7 x w).1 (zb7 x w).1.length).1.map List.length).sum ≤ _
 omega
theorem mrb7 {y:ba7} (h:YOk y) (wi:uf7):POk (yh7 y wi) :=
 ⟨bob7 (si7 wi h.ns h.nc h.ld h.troom),ueb7 wi h.ns h.nc h.ld h.troom⟩
theorem ogb7 {y:ba7} (h:YOk y) (wi:uf7) (what at_:Nat) (hat:at_ ≤ 255) {by_:Int} (hby : -128 ≤ by_ ∧ by_ ≤ 127):POk (rb7 (yh7 y wi) what at_ by_):=by
 have hf:=si7 wi h.ns h.nc h.ld h.troom
 have h1:=bfb7 hf what at_ hby
 have h2:=bcb7 hf (by have:=qhb7 wi h.ns h.nc h.ld; omega) what at_ hat hby
 refine ⟨⟨h2.2,fun b hb=>⟨(h1.2 b hb).1,(h1.2 b hb).2.2⟩⟩, ?_, ?_⟩
 ·have h3:=er7 (m:=200) (fun b hb=>(h1.2 b hb).2.1) (rb7 (yh7 y wi) what at_ by_).bikes.length (Nat.le_refl _)
  have h4:=Nat.mul_le_mul_left 200 h1.1
  omega
 ·rw [rub7]; omega
theorem ppb7 {y:ba7} (h:YOk y) (wi:uf7) {what at_:Nat} (hwh:what ≤ 255) (hat:at_ ≤ 255) {by_:Int} (hby : -128 ≤ by_ ∧ by_ ≤ 127) :
  zi7 Try.prog 14 [.agg (if7 (yh7 y wi)), .c (.int .u8 what), .c (.int .u8 at_), .c (.int .i8 by_)] (fun r=>r = .agg (if7 (rb7 (yh7 y wi) what at_ by_))) :=
 en7 ⟨_,_,Try.func14,by kernel_rfl,rfl⟩ fun rho w vs hc=>by
  obtain ⟨_,_,rfl,⟨cs,rfl,h1⟩,_,_,rfl,rfl,_,_,rfl,rfl,_,_,rfl,rfl,rfl⟩:=hc
  have hf:=si7 wi h.ns h.nc h.ld h.troom
  refine (wpb7 (tob7 h1 (mrb7 h wi).wf) hwh hat hby hf.tl (by have:=hf.bl; omega) hf.ts (fun b hb=>by have:=hf.bs b hb; exact ⟨this.1,by omega,this.2.2⟩)).mono ?_
  rintro e w' ⟨tv,bv,ts,vs,rfl,hT,hB,hb⟩
  exact ⟨_,_,rfl,rfl,ngb7 hT hB (ogb7 h wi what at_ hat hby).wf,hb⟩
theorem msb7 {y:ba7} {p:sa7} (h:YOk y) (hp:POk p):zi7 Try.prog 9 [.agg (qf7 y), .agg (if7 p)] (fun r=>r = .c (I6 (ia7 y p))) :=
 en7 ⟨_,_,Try.func9,by kernel_rfl,rfl⟩ fun rho w vs hc=>by
  obtain ⟨_,_,rfl,⟨cs,rfl,h1⟩,_,_,rfl,⟨ds,rfl,h2⟩,rfl⟩:=hc
  refine (rwb7 (xlb7 h1 h.k) (tob7 h2 hp.wf) h.chk h.nc.2 hp.small).mono ?_
  rintro e w' ⟨rfl,hb⟩
  exact ⟨_,_,rfl,rfl,rfl,hb⟩
theorem iab7 {y:ba7} {p:sa7} (h:YOk y) (hc:ia7 y p = 0):gs7 y p:=by
 have hb:=zp7 hc h.nc.2
 have gd:=te7 h.chk
 have hl:=hb.b
 refine ⟨gd,by have:=hb.tl; omega,fun t ht=>⟨by have:=hb.t1 t ht; omega,fun s hs=>((hb.ok.truck t ht).2 s hs).1⟩,by omega,fun b hbm => ?_⟩
 have h1:=hb.ok.bike b hbm
 have h2:=ug7 hbm
 have h3:=hb.s
 exact ⟨by omega,h1.1,h1.2.2⟩
theorem lzb7 {t:qb7} (h:(∀ l ∈ t.trucks, ∀ v ∈ l,0 ≤ v ∧ v ≤ 1000000000000000) ∧ ∀ r ∈ t.bikes,(0 ≤ r.out ∧ r.out ≤ 1000000000000000) ∧ (0 ≤ r.back ∧ r.back ≤ 1000000000000000) ∧ ∀ v ∈ r.starts,0 ≤ v ∧ v ≤ 1000000000000000):bu7 t :=
 ⟨fun l hl v hv=>by have:=h.1 l hl v hv; unfold ua7; omega,fun r hr=>by
  have:=h.2 r hr
  exact ⟨by unfold ua7; omega,by unfold ua7; omega,fun v hv=>by have:=this.2.2 v hv; unfold ua7; omega⟩⟩
theorem bvb7 {t:qb7} (h:bu7 t) (k:Nat):∀ v ∈ yo7 t k,ua7 v:=by
 unfold yo7
 rw [List.getD_eq_getElem?_getD]
 by_cases hk:k < t.trucks.length
 ·rw [List.getElem?_eq_getElem hk]; exact h.trucks _ (List.getElem_mem hk)
 ·rw [List.getElem?_eq_none (by omega)]; intro v hv; cases hv
theorem dgb7 {t:qb7} (h:bu7 t) (k:Nat):eob7 (yk7 t k):=by
 unfold yk7
 rw [List.getD_eq_getElem?_getD]
 by_cases hk:k < t.bikes.length
 ·rw [List.getElem?_eq_getElem hk]; exact h.bikes _ (List.getElem_mem hk)
 ·rw [List.getElem?_eq_none (by omega)]; exact ⟨by unfold ua7; simp,by unfold ua7; simp,fun v hv=>by cases hv⟩
theorem cqb7 {p:sa7} {t:qb7} (hp:p.trucks.length ≤ 1000000 ∧ p.bikes.length ≤ 1000000):zi7 Try.prog 34 [.agg (if7 p), .agg (dd7 t)] (fun r=>r = .c (.bool (qn7 p t))):=by
 have hfd:qn7 p t = true ↔ (t.trucks.length = p.trucks.length ∧ t.bikes.length = p.bikes.length) ∧ (∀ k,k < p.trucks.length → (yo7 t k).length = (tc7 p k).length) ∧ ∀ k,k < p.bikes.length → (yk7 t k).starts.length = (sc7 p k).stops.length:=by
  unfold qn7 fq7 on7
  simp only [Bool.and_eq_true,decide_eq_true_eq,List.all_eq_true,List.mem_range]
  rfl
 refine kk7 xy7 (by kernel_rfl) (fun _=>([],0,none)) Try.func34 rfl (by kernel_rfl) Try.ntmps34 (congrArg Array.toList Try.results34) (by kernel_rfl) (by simp) ?_
 simp -implicitDefEqProofs only [go_sem, ↓reduceIte,reduceCtorEq,Nat.reduceAdd,Nat.reduceLT,Nat.reduceEqDiff,Nat.reduceMul,Nat.reduceLeDiff,Nat.reduceSub,if7,dd7]
 refine ⟨fun h => ?_,fun h => ?_⟩
 ·simp only [Bool.or_eq_true,decide_eq_true_eq] at h
  have : ¬ qn7 p t = true:=fun e=>by have:=hfd.1 e; omega
  rw [Bool.not_eq_true] at this
  rw [this]
 ·simp only [Bool.or_eq_false_iff,decide_eq_false_iff_not,Decidable.not_not] at h
  obtain ⟨hl1,hl2⟩:t.trucks.length = p.trucks.length ∧ t.bikes.length = p.bikes.length:=by omega
  refine wd7 (ι:=Nat) [2,3,26,27] [28] (fun k=>k ≤ p.trucks.length ∧ ∀ i,i < k → (yo7 t i).length = (tc7 p i).length) (fun k=>[.c (I6 k)]) (fun _=>_) (fun k=>p.trucks.length - k) (by kernel_rfl) ⟨0,⟨Nat.zero_le _,fun i hi=>absurd hi (Nat.not_lt_zero _)⟩,rfl,rfl⟩ (fun k _=>⟨rfl,rfl,rfl,rfl⟩) ?_
  rintro k ⟨hk,hi⟩
  simp -implicitDefEqProofs only [go_sem, ↓reduceIte,reduceCtorEq,Nat.reduceAdd,Nat.reduceLT,Nat.reduceEqDiff,Nat.reduceMul,Nat.reduceLeDiff,Nat.reduceSub]
  refine ⟨fun h => ?_,fun h => ?_⟩
  ·have hlt:k < p.trucks.length:=by omega
   refine ⟨by omega,by omega,fun hne => ?_,fun he=>⟨by omega,k + 1,⟨by omega,fun i h => ?_⟩,rfl,by omega⟩⟩
   ·have : ¬ qn7 p t = true:=fun e=>by have:=(hfd.1 e).2.1 k hlt; omega
    rw [Bool.not_eq_true] at this
    rw [this]
   ·by_cases e:i = k
    ·subst e; omega
    ·exact hi i (by omega)
  ·obtain rfl:k = p.trucks.length:=by omega
   refine wd7 (ι:=Nat) [3,45,46] [47] (fun k=>k ≤ p.bikes.length ∧ ∀ i,i < k → (yk7 t i).starts.length = (sc7 p i).stops.length) (fun k=>[.c (I6 k)]) (fun _=>_) (fun k=>p.bikes.length - k) (by kernel_rfl) ⟨0,⟨Nat.zero_le _,fun i hi=>absurd hi (Nat.not_lt_zero _)⟩,rfl,rfl⟩ (fun k _=>⟨rfl,rfl,rfl,rfl⟩) ?_
   rintro k ⟨hk,hj⟩
   simp -implicitDefEqProofs only [go_sem, ↓reduceIte,reduceCtorEq,Nat.reduceAdd,Nat.reduceLT,Nat.reduceEqDiff,Nat.reduceMul,Nat.reduceLeDiff,Nat.reduceSub]
   refine ⟨fun h => ?_,fun h => ?_⟩
   ·have hlt:k < p.bikes.length:=by omega
    refine ⟨by omega,by omega,fun hne => ?_,fun he=>⟨by omega,k + 1,⟨by omega,fun i h => ?_⟩,rfl,by omega⟩⟩
    ·have : ¬ qn7 p t = true:=fun e=>by have:=(hfd.1 e).2.2 k hlt; omega
     rw [Bool.not_eq_true] at this
     rw [this]
    ·by_cases e:i = k
     ·subst e; omega
     ·exact hj i (by omega)
   ·obtain rfl:k = p.bikes.length:=by omega
    rw [hfd.2 ⟨⟨hl1,hl2⟩,hi,hj⟩]
theorem yv7 {P:Program} {pu:Pu} {f:FuncId} {H:List Root} {args args':List RV} {post:RV → Prop} {K:RV → List Root → Prop} (hp:zi7 P f args' post) (ho:gnb7 H args) (he:bt7 H args = args') (hH:nl7 H args = H) (hK:∀ r,post r → K r H):uu7 P pu f args H K :=
 dvb7 hp ho (by rw [he]; exact lr7 _) (by rw [hH]; exact hK)
theorem uob7 {l:List Int} (h:∀ v ∈ l,ua7 v) (j:Nat):ua7 (l.getD j 0):=by
 rw [List.getD_eq_getElem?_getD]
 by_cases hj:j < l.length
 ·rw [List.getElem?_eq_getElem hj]; exact h _ (List.getElem_mem hj)
 ·rw [List.getElem?_eq_none (by omega)]; unfold ua7; simp
theorem lrb7 {t:qb7} (h:bu7 t):tkb7 t :=
 ⟨fun k j=>uob7 (bvb7 h k) j,fun k=>⟨(dgb7 h k).1,(dgb7 h k).2.1,fun j=>uob7 (dgb7 h k).2.2 j⟩⟩
theorem vwb7 {P:Program} {f:FuncId} {args:List RV} {w:World} {vs:List Value} (h:zi7 P f args (fun r=>r = .c (.bool true))) (hc:sf7 (fun b=>b < w.heap.size) w args vs):Calls P f vs.toArray w fun e w'=>e = .returned (.bool true) ∧ Below w.heap.size w w':=by
 refine (h.2 _ w vs (fun _ h=>h) hc).mono ?_
 rintro e w' ⟨r,v,rho',rfl,rfl,h1, -,h2⟩
 obtain rfl:v = .bool true:=h1
 exact ⟨rfl,h2⟩
abbrev eI8 (l:List Int):AV := .sl l.length 1 (fun i _ => .int .i8 (l.getD i 0))
theorem tj7 {H:List Root} {pu:Pu} {kn ks:Nat} {x n what:Int} {l:List Int} (hpu:pu = none ∨ pu = some (some kn)) (r1:ea7 H kn = .live false 3 1 (.box [.int .i64 n])) (r2:ea7 H ks = .live false 31 2 (.box [eI8 l, .int .u8 what])) (hne:ks ≠ kn)
  (hl:∀ v ∈ l, -128 ≤ v ∧ v ≤ 127) (hll:l.length ≤ 9223372036854775807) (hn:0 ≤ n ∧ n ≤ 1000000000000) (hx : -10000000000000000 ≤ x ∧ x ≤ 10000000000000000) {K:RV → List Root → Prop}
  (hK:K (.c (.int .i64 (x + tw7 l n))) (eb7 H kn (.live false 3 1 (.box [.int .i64 (n + 1)])))) :
  uu7 Try.prog pu 28 [.c (.int .i64 x), .c (.ptr kn 1 0 0), .c (.ptr ks 1 0 0)] H K:=by
 refine ⟨⟨_,_,Try.func28,by kernel_rfl,rfl⟩,fun E M w vs h hc => ?_⟩
 obtain ⟨_,_,rfl,c0,v1,_,rfl,c1,v2,_,rfl,c2,rfl⟩:=hc
 obtain rfl:=c0
 obtain rfl:v1 = .pointer (some ⟨M.phi kn,0 * 1 + 0,none⟩):=(c1.2 _ _ _ _ r1).2 rfl
 obtain rfl:v2 = .pointer (some ⟨M.phi ks,0 * 2 + 0,none⟩):=(c2.2 _ _ _ _ r2).2 rfl
 obtain ⟨cur,a1,a2,a3,a4,a5,a6⟩:=h.row _ _ _ _ _ r1
 obtain ⟨u,u1, -,u2⟩:=a6 0 (Nat.zero_lt_one) 0 (Nat.zero_lt_one)
 obtain rfl:u = .int .i64 n:=u2
 have R:_root_.Go.Proofs.Ytahffcepagopmaa.Row w (M.phi kn) 3 [.int .i64 n]:=⟨cur,cur.toList.drop 1,a1,by
  obtain ⟨cl⟩:=cur
  cases cl with
  | nil=>simp at u1
  | cons q cl=>simp at u1; simp [u1]⟩
 obtain ⟨cur2,b1,b2,b3,b4,b5,b6⟩:=h.row _ _ _ _ _ r2
 obtain ⟨sv,s1, -,s2⟩:=b6 0 (Nat.zero_lt_one) 0 (by decide)
 obtain ⟨a,b,off,c,rfl,g1,g2,g3,g4⟩:jf7 M.rho w (eI8 l) sv:=s2
 have hs:w.cell? ⟨M.phi ks,0,none⟩ = some (.slice a l.length c):=by
  have:cur2[0]? = some (.slice a l.length c):=s1
  simp [World.cell?,b1,this]
 have hphi:M.phi ks ≠ M.phi kn:=fun e=>hne (h.inj _ _ _ _ _ _ _ _ r2 r1 e)
 obtain ⟨b',hb1,hb2,hb3⟩:∃ b',b' ≠ M.phi kn ∧ (0 < l.length → a = some ⟨b',off,none⟩) ∧ (0 < l.length → b' = b):=by
  by_cases h0:0 < l.length
  ·exact ⟨b,fun e=>h.thaw _ _ _ _ r1 (e ▸ (g3 h0).2),fun _=>(g3 h0).1,fun _=>rfl⟩
  ·exact ⟨M.phi kn + 1,by omega,fun h=>absurd h h0,fun h=>absurd h h0⟩
 obtain ⟨w2,q1,q2,q3⟩:=xz7 (P:=Try.prog) h r1 (i:=0) (o:=0) (cs:=[.int .i64 (n + 1)]) (vs:=[.int .i64 (n + 1)]) Nat.zero_lt_one (Nat.le_refl _) (fun v hv=>by obtain rfl:=List.mem_singleton.1 hv; rfl) rfl (fun j v hv=>by
  cases j with
  | zero=>cases hv; exact rfl
  | succ j=>simp at hv) trivial
 have hw2:w2 = w.setCell ⟨M.phi kn,0,none⟩ (.int .i64 (n + 1)):=by
  have c0:=R.cell (j:=0) (by simp)
  have f0:=R.frozen 0
  have:=run_storeCells_cells (P:=Try.prog) (M.phi kn) 0 [.int .i64 (n + 1)] 0 w (fun j hj=>by
   obtain rfl:j = 0:=by simpa using hj
   simp [c0]) (fun j hj=>by
   obtain rfl:j = 0:=by simpa using hj
   simpa using f0) (fun v hv=>by obtain rfl:=List.mem_singleton.1 hv; rfl)
  rw [show (⟨M.phi kn,0 * 1 + 0,none⟩:Addr) = ⟨M.phi kn,0,none⟩ from rfl,this] at q3
  cases q3
  rfl
 subst hw2
 refine (axb7 (x:=x) R hs hphi hb1 hb2 (fun k hk => ?_) hn hx hll).mono ?_
 ·obtain ⟨u,k1,k2⟩:=g4 k hk 0 (by decide)
  obtain rfl:=hb3 (by omega)
  have k2:u = .int .i8 (l.getD k 0):=k2
  rw [List.getD_eq_getElem?_getD,List.getElem?_eq_getElem hk] at k2
  simp only [Option.getD_some] at k2
  subst k2
  refine ⟨by rw [← k1]; congr 2; omega,hl _ (List.getElem_mem hk)⟩
 ·rintro e w' ⟨rfl,hb⟩
  refine ⟨M,_, .c (.int .i64 (x + tw7 l n)),_,rfl,q1.below hb,q2.trans (Kp.below q1 hb),rfl,fun g hg => ?_,by rw [ic7]; exact Nat.le_refl _,hK⟩
  rcases hpu with rfl | rfl
  ·cases hg
  ·cases hg
   refine ⟨Nat.le_trans (by simp [World.setCell]) hb.size,fun k hk hk2 => ?_⟩
   rw [hb.block k (by simpa [World.setCell] using hk)]
   exact Below.heap_setCell _ _ _ _ (fun e=>hk2 (by rw [e]; rfl))
abbrev ckI:List CK:=[.i .i64]
abbrev wac7 (b:Nat):List CK:=[.s 2 ckI b]
abbrev hbc7 (b:Nat):List CK:=[.i .i64, .s 2 ckI b, .i .i64]
abbrev ckT:List CK:=wac7 200000
abbrev ckR:List CK:=hbc7 200000
def tdb7 (r:RV):Prop := ∃ t:qb7,r = .agg (dd7 t) ∧ (∀ l ∈ t.trucks, ∀ v ∈ l,ua7 v) ∧ (∀ r ∈ t.bikes,ua7 r.out ∧ ua7 r.back ∧ ∀ v ∈ r.starts,ua7 v) ∧ t.trucks.length ≤ 200000 ∧ t.bikes.length ≤ 200000
theorem mkL {α:Type} {n:Nat} {P:Nat → α → Prop} (d:α) (key:∀ i,i < n → ∃ a,P i a):∃ l:List α,l.length = n ∧ ∀ i,i < n → P i (l.getD i d):=by
 refine ⟨(List.range n).map fun i=>if h:i < n then (key i h).choose else d,by simp,fun i hi => ?_⟩
 have e:((List.range n).map fun i=>if h:i < n then (key i h).choose else d).getD i d = (key i hi).choose:=by
  rw [of7 (by simpa using hi)]; simp [hi]
 rw [e]; exact (key i hi).choose_spec
theorem ynb7 {d:Nat} {x:AV} (h:Rd d (.i .i64) x):∃ v,x = .int .i64 v ∧ ua7 v:=by
 cases d <;> exact h
theorem blb7 {x:AV} {b:Nat} (h:Rd 1 (.s 2 ckI b) x):∃ l:List Int,(∀ v ∈ l,ua7 v) ∧ Eqv x (bi7 l):=by
 obtain ⟨n,f,rfl, -,h2⟩:=h
 obtain ⟨l,hl,h4⟩:=mkL (n:=n) (P:=fun i v=>f i 0 = .int .i64 v ∧ ua7 v) (0:Int) fun i hi=>ynb7 (h2 i hi 0 (.i .i64) rfl)
 subst hl
 refine ⟨l,fun v hv => ?_,_,rfl,fun i hi j hj => ?_⟩
 ·obtain ⟨i,hi,rfl⟩:=List.getElem_of_mem hv
  have:=(h4 i hi).2
  rwa [of7 hi] at this
 ·obtain rfl:j = 0:=Nat.lt_one_iff.1 hj
  rw [(h4 i hi).1]; rfl
theorem epb7 {n b:Nat} {x:AV} (h:RdS 1 (wac7 b) n x):∃ L:List (List Int),L.length = n ∧ (∀ l ∈ L, ∀ v ∈ l,ua7 v) ∧ Eqv x (.sl L.length 1 (fun i _=>bi7 (L.getD i []))):=by
 obtain ⟨f,rfl,h2⟩:=h
 obtain ⟨L,hl,h4⟩:=mkL (n:=n) (P:=fun i l=>(∀ v ∈ l,ua7 v) ∧ Eqv (f i 0) (bi7 l)) ([]:List Int) fun i hi=>blb7 (h2 i hi 0 _ rfl)
 subst hl
 refine ⟨L,rfl,fun l hm => ?_,_,rfl,fun i hi j hj => ?_⟩
 ·obtain ⟨i,hi,rfl⟩:=List.getElem_of_mem hm
  have:=(h4 i hi).1
  rwa [of7 hi] at this
 ·obtain rfl:j = 0:=Nat.lt_one_iff.1 hj
  exact (h4 i hi).2
theorem pqb7 {n b:Nat} {x:AV} (h:RdS 1 (hbc7 b) n x):∃ L:List zc7,L.length = n ∧ (∀ r ∈ L,ua7 r.out ∧ ua7 r.back ∧ ∀ v ∈ r.starts,ua7 v) ∧ Eqv x (.sl L.length 3 (fun i=>ix3 (I6 (L.getD i ⟨0,[],0⟩).out) (bi7 (L.getD i ⟨0,[],0⟩).starts) (I6 (L.getD i ⟨0,[],0⟩).back))):=by
 obtain ⟨f,rfl,h2⟩:=h
 obtain ⟨L,hl,h4⟩:=mkL (n:=n) (P:=fun i (r:zc7)=>(ua7 r.out ∧ ua7 r.back ∧ ∀ v ∈ r.starts,ua7 v) ∧ f i 0 = I6 r.out ∧ Eqv (f i 1) (bi7 r.starts) ∧ f i 2 = I6 r.back) (⟨0,[],0⟩:zc7) fun i hi=>by
  obtain ⟨a,a1,a2⟩:=ynb7 (h2 i hi 0 (.i .i64) rfl)
  obtain ⟨l,l1,l2⟩:=blb7 (h2 i hi 1 _ rfl)
  obtain ⟨c,c1,c2⟩:=ynb7 (h2 i hi 2 (.i .i64) rfl)
  exact ⟨⟨a,l,c⟩,⟨a2,c2,l1⟩,a1,l2,c1⟩
 subst hl
 refine ⟨L,rfl,fun l hm => ?_,_,rfl,fun i hi j hj => ?_⟩
 ·obtain ⟨i,hi,rfl⟩:=List.getElem_of_mem hm
  have:=(h4 i hi).1
  rwa [of7 hi] at this
 ·obtain ⟨-,k1,k2,k3⟩:=h4 i hi
  match j,hj with
  | 0,_=>rw [k1]; rfl
  | 1,_=>exact k2
  | 2,_=>rw [k3]; rfl
theorem ksb7 {k:Nat} {a b:AV} {H:List Root} (ha:a = .nils ∨ ∃ n,n ≤ 200000 ∧ a = .ws 65 (wac7 k) n) (hb:b = .nils ∨ ∃ n,n ≤ 200000 ∧ b = .ws 67 (hbc7 k) n):hcc7 1 tdb7 (.agg [a,b]) H:=by
 refine ⟨[a,b],rfl, ?_, ?_⟩
 ·rcases ha with rfl | ⟨n, -,rfl⟩ <;> rcases hb with rfl | ⟨m, -,rfl⟩ <;> rfl
 ·rintro l' ⟨x,_,rfl,hx,y,_,rfl,hy,rfl⟩
  have h1:∃ L:List (List Int),L.length ≤ 200000 ∧ (∀ l ∈ L, ∀ v ∈ l,ua7 v) ∧ Eqv x (.sl L.length 1 (fun i _=>bi7 (L.getD i []))):=by
   rcases ha with rfl | ⟨n,hn,rfl⟩
   ·obtain rfl:x = .nils:=hx
    exact ⟨[],Nat.zero_le _,fun l h=>(by cases h), .inr ⟨1,_,rfl⟩⟩
   ·obtain ⟨L,l1,l2,l3⟩:=epb7 hx
    exact ⟨L,by omega,l2,l3⟩
  have h2:∃ L:List zc7,L.length ≤ 200000 ∧ (∀ r ∈ L,ua7 r.out ∧ ua7 r.back ∧ ∀ v ∈ r.starts,ua7 v) ∧ Eqv y (.sl L.length 3 (fun i=>ix3 (I6 (L.getD i ⟨0,[],0⟩).out) (bi7 (L.getD i ⟨0,[],0⟩).starts) (I6 (L.getD i ⟨0,[],0⟩).back))):=by
   rcases hb with rfl | ⟨n,hn,rfl⟩
   ·obtain rfl:y = .nils:=hy
    exact ⟨[],Nat.zero_le _,fun l h=>(by cases h), .inr ⟨3,_,rfl⟩⟩
   ·obtain ⟨L,l1,l2,l3⟩:=pqb7 hy
    exact ⟨L,by omega,l2,l3⟩
  obtain ⟨L,l1,l2,l3⟩:=h1
  obtain ⟨B,b1,b2,b3⟩:=h2
  exact ⟨dd7 ⟨L,B⟩,⟨_,_,rfl, .inr l3,_,_,rfl, .inr b3,rfl⟩,⟨L,B⟩,rfl,l2,b2,l1,b1⟩
def upK:CK → CK
 | .i k => .i k
 | .s t ck b => .s t (upKs ck) (b + 1)
where upKs:List CK → List CK
 | []=>[]
 | q :: l=>upK q :: upKs l
def upA:AV → AV
 | .ws t ck n => .ws t (upK.upKs ck) n
 | .wu t ck b => .wu t (upK.upKs ck) b
 | .wp t ck o => .wp t (upK.upKs ck) o
 | x=>x
def upL:List AV → List AV
 | []=>[]
 | x :: l=>upA x :: upL l
mutual
def upR:RV → RV
 | .c a => .c (upA a)
 | .agg l => .agg (upL l)
 | .fn f l => .fn f (upL l)
 | .tup l => .tup (qbc7 l)
def qbc7:List RV → List RV
 | []=>[]
 | x :: l=>upR x :: qbc7 l
end
def upW:Row → Row
 | .box l => .box (upL l)
 | r=>r
def gzb7:Root → Root
 | .live fz t sz r => .live fz t sz (upW r)
 | .dead => .dead
def upH:List Root → List Root
 | []=>[]
 | r :: l=>gzb7 r :: upH l
def upT:Tm → Tm
 | []=>[]
 | (k,g,v) :: l=>(k,g,upR v) :: upT l
def upM (M:Mp):Mp:=⟨M.phi,M.rho,fun b=>(M.tau b).map fun q=>(q.1,upK.upKs q.2)⟩
section
variable {P:Program} {E:Env} {nt:Nat} {M:Mp} {H:List Root} {σ:AS} {a:Act} {w:World}
theorem kl7:∀ l:List CK,(upK.upKs l).length = l.length
 | []=>rfl
 | _ :: l=>by simp [upK.upKs,kl7 l]
theorem vkb7:∀ (l:List CK) (j:Nat) (q:CK),(upK.upKs l)[j]? = some q → ∃ q0,l[j]? = some q0 ∧ q = upK q0
 | [],j,q,h=>by simp [upK.upKs] at h
 | x :: l,0,q,h=>⟨x,rfl,by simpa [upK.upKs] using h.symm⟩
 | x :: l,j + 1,q,h=>by simpa using vkb7 l j q (by simpa [upK.upKs] using h)
theorem lob7 {b:Nat} {t:TypeId} {ck:List CK} (h:M.tau b = some (t,ck)):(upM M).tau b = some (t,upK.upKs ck):=by
 show (M.tau b).map _ = _
 rw [h]; rfl
theorem egb7 {b:Nat} {q:TypeId × List CK} (h:(upM M).tau b = some q):∃ q0,M.tau b = some q0 ∧ q = (q0.1,upK.upKs q0.2):=by
 have h:(M.tau b).map _ = some q:=h
 cases hq:M.tau b with
 | none=>rw [hq] at h; cases h
 | some q0=>rw [hq] at h; exact ⟨q0,rfl,(Option.some.inj h).symm⟩
theorem WSl.up {t:TypeId} {ck:List CK} {n:Nat} {v:Value} (h:WSl M w t ck n v):WSl (upM M) w t (upK.upKs ck) n v:=by
 obtain ⟨x,c,rfl,h1,h2,h3,h4⟩:=h
 refine ⟨x,c,rfl,h1,h2,h3,fun ad e => ?_⟩
 obtain ⟨b,cur,e,g1,g2,g3⟩:=h4 ad e
 exact ⟨b,cur,e,lob7 g1,g2,by rw [kl7]; exact g3⟩
theorem bx7.up {q:CK} {v:Value} (h:bx7 M w q v):bx7 (upM M) w (upK q) v:=by
 cases q with
 | i k=>exact h
 | s t ck b=>obtain ⟨n,h1,h2⟩:=h; exact ⟨n,by omega,h2.up⟩
theorem cl7 {id:Nat} {fz:Bool} {t:TypeId} {sz:Nat} {r:Row}:∀ {H:List Root},ea7 (upH H) id = .live fz t sz r → ∃ r0,ea7 H id = .live fz t sz r0 ∧ r = upW r0:=by
 intro H
 induction H generalizing id with
 | nil=>intro h; cases h
 | cons x l ih =>
  cases id with
  | zero =>
   intro h
   cases x with
   | dead=>cases h
   | live fz' t' sz' r'=>cases h; exact ⟨r',rfl,rfl⟩
  | succ id=>exact fun h=>ih h
theorem eeb7:∀ H:List Root,(upH H).length = H.length
 | []=>rfl
 | _ :: l=>by simp [upH,eeb7 l]
theorem aab7 (r:Row):(upW r).len = r.len:=by cases r <;> rfl
theorem sjb7 (r:Row):(upW r).isBox = r.isBox:=by cases r <;> rfl
theorem atb7:∀ (l:List AV) (o:Nat),nth (upL l) o = upA (nth l o)
 | [],_=>rfl
 | _ :: _,0=>rfl
 | _ :: l,o + 1=>by simp only [upL,nth]; exact atb7 l o
theorem Con.up {x:AV} {v:Value} (h:Con M H w x v):Con (upM M) (upH H) w (upA x) v:=by
 cases x with
 | ptr id n i o =>
  refine ⟨⟨by rw [eeb7]; exact h.1.1,h.1.2⟩,fun fz t sz r hr => ?_⟩
  obtain ⟨r0,k1,rfl⟩:=cl7 hr
  rw [aab7]
  exact h.2 _ _ _ _ k1
 | h id st len =>
  refine ⟨⟨by rw [eeb7]; exact h.1.1,h.1.2⟩,fun fz t sz r hr => ?_⟩
  obtain ⟨r0,k1,rfl⟩:=cl7 hr
  rw [aab7]
  exact h.2 _ _ _ _ k1
 | ws t ck n=>exact WSl.up h
 | wu t ck b=>obtain ⟨n,hb,h⟩:=h; exact ⟨n,hb,WSl.up h⟩
 | wp t ck o =>
  obtain ⟨b,cur,i,rfl,h1,h2,h3⟩:=h
  exact ⟨b,cur,i,by rw [kl7],lob7 h1,h2,by rw [kl7]; exact h3⟩
 | junk=>trivial
 | _=>exact h
theorem ag7.up:∀ {l:List AV} {vs:List Value},ag7 M H w l vs → ag7 (upM M) (upH H) w (upL l) vs
 | [],_,h=>h
 | _ :: _,_,⟨v,r,e,h1,h2⟩=>⟨v,r,e,h1.up,ag7.up h2⟩
mutual
theorem ke7.up:∀ {x:RV} {v:Value},ke7 M H w x v → ke7 (upM M) (upH H) w (upR x) v
 | .c _,_,h=>Con.up h
 | .agg _,_,⟨vs,e,h⟩=>⟨vs,e,ag7.up h⟩
 | .fn _ _,_,⟨vs,e,h⟩=>⟨vs,e,ag7.up h⟩
 | .tup _,_,⟨vs,e,h⟩=>⟨vs,e,ve7.up h⟩
theorem ve7.up:∀ {x:List RV} {vs:List Value},ve7 M H w x vs → ve7 (upM M) (upH H) w (qbc7 x) vs
 | [],_,h=>h
 | _ :: _,_,⟨v,r,e,h1,h2⟩=>⟨v,r,e,ke7.up h1,ve7.up h2⟩
end
theorem Rel.up (h:Rel E M H w):Rel E (upM M) (upH H) w:=by
 refine ⟨h.bel,fun id fz t sz r hr => ?_,fun id fz t sz r hr => ?_,fun id t sz r hr => ?_,fun id t sz r hr => ?_,fun i j t s r t' s' r' hi hj he => ?_,h.rlt,h.src,⟨fun b q hq => ?_,fun b q id fz t sz r hq hr => ?_,fun b t ck hq => ?_⟩⟩
 ·obtain ⟨r0,k1,rfl⟩:=cl7 hr; exact h.low _ _ _ _ _ k1
 ·obtain ⟨r0,k1,rfl⟩:=cl7 hr
  obtain ⟨cur,c1,c2,c3,c4,c5,c6⟩:=h.row _ _ _ _ _ k1
  refine ⟨cur,c1,c2,by rw [aab7]; exact c3,c4,by rw [sjb7]; exact c5,fun i hi o ho2 => ?_⟩
  rw [aab7] at hi
  obtain ⟨v,q1,q2,q3⟩:=c6 i hi o ho2
  refine ⟨v,q1,q2, ?_⟩
  unfold jw7 at q3 ⊢
  rw [sjb7]
  cases r0 with
  | box l =>
   simp only [Row.isBox,if_true] at q3 ⊢
   show Con _ _ w (nth (upL l) o) v
   rw [atb7]
   exact q3.up
  | _=>exact q3
 ·obtain ⟨r0,k1,rfl⟩:=cl7 hr; exact h.froz _ _ _ _ k1
 ·obtain ⟨r0,k1,rfl⟩:=cl7 hr; exact h.thaw _ _ _ _ k1
 ·obtain ⟨r0,k1,rfl⟩:=cl7 hi
  obtain ⟨r1,k2,rfl⟩:=cl7 hj
  exact h.inj _ _ _ _ _ _ _ _ k1 k2 he
 ·obtain ⟨q0,k1,rfl⟩:=egb7 hq; exact h.tau.new b q0 k1
 ·obtain ⟨q0,k1,rfl⟩:=egb7 hq
  obtain ⟨r0,k2,rfl⟩:=cl7 hr
  exact h.tau.row _ _ _ _ _ _ _ k1 k2
 ·obtain ⟨q0,k1,e⟩:=egb7 hq
  cases e
  obtain ⟨cur,c1,c2,c3,c4⟩:=h.tau.cells b q0.1 q0.2 k1
  refine ⟨cur,c1,by rw [kl7]; exact c2,by rw [kl7]; exact c3,fun k hk => ?_⟩
  obtain ⟨v,v1,v2⟩:=c4 k hk
  refine ⟨v,v1,fun q hq2 => ?_⟩
  rw [kl7] at hq2
  obtain ⟨q1,k3,rfl⟩:=vkb7 _ _ _ hq2
  exact (v2 _ k3).up
theorem llb7:∀ (tm:Tm) (t:Nat),lk (upT tm) t = ((lk tm t).1,upR (lk tm t).2)
 | [],_=>rfl
 | (k,g,v) :: l,t=>by
  simp only [upT,lk]
  split
  ·rfl
  ·exact llb7 l t
def upS (σ:AS):AS:=⟨upT σ.tm,upH σ.H⟩
theorem St.up (h:St E nt M σ a w):St E nt (upM M) (upS σ) a w:=by
 refine ⟨h.rel.up,fun t ht => ?_,fun t ht => ?_,h.sz,h.df⟩
 ·have ht:(lk (upT σ.tm) t).1 = true:=ht
  show ke7 _ _ w (lk (upT σ.tm) t).2 _
  rw [llb7] at ht ⊢
  exact (h.tms t ht).up
 ·have ht:(lk (upT σ.tm) t).1 = false:=ht
  rw [llb7] at ht
  exact h.off t ht
end
inductive Tr where
 | d (u:Bool)
 | no
 | br (w:Bool) (i:Nat) (t r:Tr)
inductive Pl where
 | a
 | s (p q:Pl)
 | c (p q:Pl)
 | b (p:Pl)
 | k (ks:List Nat) (p q:Pl)
 | t (lq:List Nat) (T:Tr) (r fins:List Nat)
def upIf:Bool → AS → AS
 | true,σ=>upS σ
 | false,σ=>σ
def keepS (ks:List Nat) (σ:AS):AS:=⟨fxT σ.tm ks,σ.H⟩
def puT:Bool → Pu
 | true=>none
 | false=>some none
section
variable (P:Program) (ty:Ty)
def njb7 (ops:Array Oper) (r:List Nat):Tr → (AS → Prop) → AS → Prop
 | .d u,K,σ=>mw7 P ty r.length none ops (pick ops r) K (upIf u σ)
 | .no,_,_=>True
 | .br w i t q,K,σ=>bab7 P ty (puT w) none ops σ (ops.getD i default) (njb7 ops r t K) ∧ njb7 ops r q K σ
def jrb7 (ops:Array Oper) (T:Tr) (r:List Nat):List Oper → (AS → Prop) → AS → Prop
 | [],K,σ=>njb7 P ty ops r T K σ
 | o :: l,K,σ=>bab7 P ty (some none) none ops σ o (jrb7 ops T r l K)
def lw7 (ord:Nat → List Nat × Nat × Option Nat):Pl → Code → (Exit → AS → Prop) → AS → Prop
 | .a,c,Q,σ=>awp P ty ord c Q σ
 | .s p q, .seq x y,Q,σ=>lw7 ord p x (qq7 (lw7 ord q y Q) Q) σ
 | .c p q, .cond x y z,Q,σ=>zy7 (σ.rd x) (lw7 ord p y Q σ) (lw7 ord q z Q σ)
 | .b p, .block id x,Q,σ=>lw7 ord p x (inB id Q) σ
 | .k ks p q, .seq x y,Q,σ => ∃ R:AS → Prop,lw7 ord p x (qq7 (fun σ'=>R (keepS ks σ')) Q) σ ∧ ∀ σ',R σ' → lw7 ord q y Q σ'
 | .t lq T r _, .region _ ops true,Q,σ=>jrb7 P ty ops T r (pick ops lq) (Q .normal) σ
 | _,_,_,_=>False
end
def rtb7 (ops:Array Oper) (fins:List Nat):List Nat → Array Bool → Bool
 | [],listed=>(Region.ready .any ops listed).isEmpty
 | i :: r,listed=>decide (Region.ready .any ops listed = [i]) && decide (i < ops.size) && fins.contains i && rtb7 ops fins r (listed.setIfInBounds i true)
def uec7:Tr → Bool
 | .d _=>false
 | _=>true
def tvb7 (ops:Array Oper) (fins r:List Nat):Tr → Nat → Bool → List Nat → Array Bool → Bool
 | .d _,n,_,_,l=>decide (r.length = n) && rtb7 ops fins r l
 | .no,n,_,al,l=>decide (0 < n) && decide (Region.ready .any ops l ≠ []) && (Region.ready .any ops l).all (al.contains ·)
 | .br w i t q,n,dy,al,l=>decide (i < ops.size) && (!w || dy || fins.contains i) && uec7 q && tvb7 ops fins r t (n - 1) (dy || w) [] (l.setIfInBounds i true) && tvb7 ops fins r q n dy (i :: al) l
def xbc7 (nt:Nat) (ops:Array Oper) (lq:List Nat) (T:Tr) (r:List Nat) (fins:List Nat):Bool :=
 xab7 nt ops && Region.noSelect ops && decide (lq.length ≤ ops.size) && lq.all (fun i=>decide (i < ops.size) && isV (ops.getD i default).op) && match ds7 .any ops fins lq (Array.replicate ops.size false) with
  | some listed=>tvb7 ops fins r T (ops.size - lq.length) false [] listed
  | none=>false
def okD (nt:Nat) (ord:Nat → List Nat × Nat × Option Nat):Pl → Code → Bool
 | .a,c=>okC nt ord c
 | .s p q, .seq x y=>okD nt ord p x && okD nt ord q y
 | .c p q, .cond _ x y=>okD nt ord p x && okD nt ord q y
 | .b p, .block _ x=>okD nt ord p x
 | .k _ p q, .seq x y=>okD nt ord p x && okD nt ord q y
 | .t lq T r fins, .region _ ops true=>xbc7 nt ops lq T r fins
 | _,_=>false
section
variable {P:Program} {ty:Ty} {E:Env} {nt:Nat} {M:Mp} {σ:AS} {a:Act} {w w0:World} {ops:Array Oper} {K:AS → Prop} {Q:Exit → Act → World → Prop} {fins r:List Nat}
theorem yeb7 {i:Nat} {Kn:Act → World → Prop} (hi:i < ops.size) (h:if Region.wanted (ops.getD i default) (yielded ops a.tmps) then (ops.getD i default).wp P a w Kn Q else Kn (a.put (ops.getD i default).dst undef) w):wpOp P ops Q i Kn a w:=by
 have ho:ops[i]? = some (ops.getD i default):=by simp [Array.getD,hi]
 unfold wpOp
 rw [ho]
 show if Region.wanted (ops.getD i default) (yielded ops a.tmps) then _ ∨ _ else _
 by_cases hw:Region.wanted (ops.getD i default) (yielded ops a.tmps) = true
 ·rw [if_pos hw] at h ⊢; exact .inl h
 ·rw [if_neg hw] at h ⊢; exact h
theorem dst_at (hd:xab7 nt ops = true) {i:Nat} (hi:i < ops.size):∀ t,(ops.getD i default).dst = some t → t < nt :=
 dr7 hd _ (by simp [Array.getD,hi])
theorem St.upIf (h:St E nt M σ a w):∀ u:Bool, ∃ M',St E nt M' (upIf u σ) a w
 | true=>⟨_,h.up⟩
 | false=>⟨_,h⟩
theorem St.keepS (h:St E nt M σ a w) (ks:List Nat):St E nt M (keepS ks σ) a w:=by
 refine ⟨h.rel,fun t ht => ?_,fun t ht => ?_,h.sz,h.df⟩
 ·have ht:(lk (fxT σ.tm ks) t).1 = true:=ht
  show ke7 M σ.H w (lk (fxT σ.tm ks) t).2 _
  rcases nv7 σ.tm ks t with ⟨-,e⟩ | ⟨-,e⟩
  ·rw [e] at ht ⊢; exact h.tms t ht
  ·rw [e]; trivial
 ·have ht:(lk (fxT σ.tm ks) t).1 = false:=ht
  rcases nv7 σ.tm ks t with ⟨-,e⟩ | ⟨-,e⟩
  ·rw [e] at ht; exact h.off t ht
  ·rw [e] at ht; cases ht
theorem pab7 (hT:lj7 P ty) (hd:xab7 nt ops = true) (hQ:∀ M σ a w,St E nt M σ a w → K σ → Q .normal a w) {nf:Nat}:∀ (r:List Nat) {M:Mp} {σ:AS} {a:Act} {w:World} {l:Array Bool},St E nt M σ a w → mw7 P ty nf none ops (pick ops r) K σ → rtb7 ops fins r l = true → wpAny P .any ops Q r.length l a w
 | [],M,σ,a,w,l,h,hw,hc=>⟨by simpa [rtb7] using hc,hQ _ _ _ _ h hw⟩
 | i :: r,M,σ,a,w,l,h,hw,hc=>by
  simp only [rtb7,Bool.and_eq_true,decide_eq_true_eq] at hc
  obtain ⟨⟨⟨h1,h2⟩,h3⟩,h4⟩:=hc
  refine ⟨fun h0=>(by rw [h1] at h0; cases h0),fun j hj => ?_⟩
  rw [h1,List.mem_singleton] at hj
  subst hj
  exact yeb7 h2 (vmb7 hT h (dst_at hd h2) (show bab7 P ty _ none ops σ (ops.getD j default) (mw7 P ty nf none ops (pick ops r) K) from hw) fun M' σ' a' w' q1 _ _ q4=>pab7 hT hd hQ r q1 q4 h4)
def snb7 (P:Program) (ops:Array Oper) (Q:Exit → Act → World → Prop) (fins:List Nat) (w0:World) (dy:Bool) (n:Nat) (l:Array Bool) (a:Act) (w:World):Prop :=
 if dy then wpAny P .any ops Q n l a w else ch7 P .any ops Q (gj7 none w0) fins n l a w
theorem ieb7 (hT:lj7 P ty) (hd:xab7 nt ops = true) (hQ:∀ M σ a w,St E nt M σ a w → K σ → Q .normal a w):∀ (T:Tr) {n:Nat} {dy:Bool} {al:List Nat} {l:Array Bool} {M:Mp} {σ:AS} {a:Act} {w:World},St E nt M σ a w → tvb7 ops fins r T n dy al l = true → njb7 P ty ops r T K σ → (dy = false → gj7 none w0 w) →
  ((∃ u,T = .d u) ∧ snb7 P ops Q fins w0 dy n l a w) ∨ ((0 < n ∧ Region.ready .any ops l ≠ []) ∧ ∀ m,n = m + 1 → ∀ i ∈ Region.ready .any ops l,i ∈ al ∨ wpOp P ops Q i (fun a' w'=>if dy then wpAny P .any ops Q m (l.setIfInBounds i true) a' w' else (i ∈ fins ∧ wpAny P .any ops Q m (l.setIfInBounds i true) a' w') ∨ (gj7 none w0 w' ∧ ch7 P .any ops Q (gj7 none w0) fins m (l.setIfInBounds i true) a' w')) a w)
 | .d u,n,dy,al,l,M,σ,a,w,h,hc,hw,ho=>by
  obtain ⟨M,h⟩:=h.upIf u
  simp only [tvb7,Bool.and_eq_true,decide_eq_true_eq] at hc
  obtain ⟨rfl,hc⟩:=hc
  refine .inl ⟨⟨u,rfl⟩, ?_⟩
  unfold snb7
  split
  ·exact pab7 hT hd hQ r h hw hc
  ·cases r with
   | nil=>exact ⟨by simpa [rtb7] using hc,hQ _ _ _ _ h hw⟩
   | cons i r =>
    simp only [rtb7,Bool.and_eq_true,decide_eq_true_eq] at hc
    obtain ⟨⟨⟨h1,h2⟩,h3⟩,h4⟩:=hc
    refine ⟨fun h0=>(by rw [h1] at h0; cases h0),fun j hj => ?_⟩
    rw [h1,List.mem_singleton] at hj
    subst hj
    exact yeb7 h2 (vmb7 hT h (dst_at hd h2) (show bab7 P ty _ none ops (upIf u σ) (ops.getD j default) (mw7 P ty (j :: r).length none ops (pick ops r) K) from hw) fun M' σ' a' w' q1 _ _ q4 => .inl ⟨by simpa using h3,pab7 hT hd hQ r q1 q4 h4⟩)
 | .no,n,dy,al,l,M,σ,a,w,h,hc,hw,ho=>by
  simp only [tvb7,Bool.and_eq_true,decide_eq_true_eq,List.all_eq_true] at hc
  exact .inr ⟨hc.1,fun m _ i hi => .inl (by simpa using hc.2 i hi)⟩
 | .br wr i t q,n,dy,al,l,M,σ,a,w,h,hc,hw,ho=>by
  simp only [tvb7,Bool.and_eq_true,decide_eq_true_eq] at hc
  obtain ⟨⟨⟨⟨h1,h2⟩,h3⟩,h4⟩,h5⟩:=hc
  rcases ieb7 hT hd hQ q h h5 hw.2 ho with ⟨⟨u,e⟩, -⟩ | ⟨k1,k2⟩
  ·subst e
   cases h3
  ·refine .inr ⟨k1,fun m hm j hj => ?_⟩
   rcases k2 m hm j hj with hj2 | hj2
   ·rcases List.mem_cons.1 hj2 with rfl | hj2
    ·refine .inr (yeb7 h1 (vmb7 hT h (dst_at hd h1) hw.1 fun M' σ' a' w' q1 q2 _ q4 => ?_))
     have hold:dy = false → wr = false → gj7 none w0 w':=fun e1 e2=>by subst e2; exact (ho e1).step (q2 none rfl)
     have ih:=ieb7 hT hd hQ t q1 h4 q4 (fun e=>by
      rw [Bool.or_eq_false_iff] at e
      exact hold e.1 e.2)
     have ih2:snb7 P ops Q fins w0 (dy || wr) m (l.setIfInBounds j true) a' w':=by
      have e:n - 1 = m:=by omega
      rw [e] at ih
      rcases ih with ⟨-,ih⟩ | ⟨⟨g0,g1⟩,g2⟩
      ·exact ih
      ·unfold snb7
       cases m with
       | zero=>omega
       | succ m =>
        split
        ·rename_i hdy
         refine ⟨fun h0=>absurd h0 g1,fun i hi => ?_⟩
         have:=(g2 m rfl i hi).resolve_left (by simp)
         rw [hdy] at this
         simpa using this
        ·rename_i hdy
         refine ⟨fun h0=>absurd h0 g1,fun i hi => ?_⟩
         have:=(g2 m rfl i hi).resolve_left (by simp)
         rw [Bool.eq_false_iff.2 hdy] at this
         simpa using this
     unfold snb7 at ih2
     cases dy with
     | true=>simpa using ih2
     | false =>
      cases wr with
      | true=>exact .inl ⟨by simpa using h2,by simpa using ih2⟩
      | false=>exact .inr ⟨hold rfl rfl,by simpa using ih2⟩
    ·exact .inl hj2
   ·exact .inr hj2
theorem sbb7 (hT:lj7 P ty) (hd:xab7 nt ops = true) {T:Tr}:∀ (lq:List Nat) {M:Mp} {σ:AS} {a:Act},St E nt M σ a w → (∀ i ∈ lq,i < ops.size ∧ isV (ops.getD i default).op = true) → jrb7 P ty ops T r (pick ops lq) K σ →
  wpQuiet P ops (fun w' => ∃ e:At (gj7 none w),w' = e.val) (fun a' => ∃ M' σ',St E nt M' σ' a' w ∧ njb7 P ty ops r T K σ') (lq.map fun j=>ops.getD j default) a
 | [],M,σ,a,h,_,hw=>⟨M,σ,h,hw⟩
 | i :: lq,M,σ,a,h,hl,hw=>by
  obtain ⟨h1,h2⟩:=hl i (List.mem_cons_self ..)
  have hw':gpb7 ty (guardOf σ.tm ops (ops.getD i default).guard) none σ (ops.getD i default) (jrb7 P ty ops T r (pick ops lq) K):=by
   have:bab7 P ty _ none ops σ (ops.getD i default) _:=hw
   unfold bab7 at this
   rw [if_pos h2] at this
   exact this
  obtain ⟨σ',v,k1,k2,k3,k4,k5⟩:=dob7 hT h h2 (dst_at hd h1) hw'
  have ih:=sbb7 hT hd lq k3 (fun j hj=>hl j (List.mem_cons_of_mem _ hj)) k1
  simp only [List.map_cons]
  unfold wpQuiet
  by_cases hwt:Region.wanted (ops.getD i default) (yielded ops a.tmps) = true
  ·rw [if_pos hwt]
   refine ⟨v, ?_,ih⟩
   rintro w1 ⟨e,rfl⟩
   unfold Oper.quietAt
   rw [k4 hwt e.val e.ok]
   exact ⟨rfl,rfl⟩
  ·rw [if_neg hwt]
   rw [k5 (by simpa using hwt)] at ih
   exact ih
theorem ktb7 (hT:lj7 P ty) (hm:P.follows .mixedOrders = true) {id:Nat} {lq:List Nat} {T:Tr} (hB:xbc7 nt ops lq T r fins = true) (h:St E nt M σ a w) (hw:jrb7 P ty ops T r (pick ops lq) K σ) (hQ:∀ M σ a w,St E nt M σ a w → K σ → Q .normal a w) (hQp:∀ c a w, ¬ Q (.panic c) a w):(Code.region id ops true).wp P Q a w:=by
 unfold xbc7 at hB
 simp only [Bool.and_eq_true,decide_eq_true_eq,List.all_eq_true] at hB
 obtain ⟨⟨⟨⟨b1,b2⟩,b3⟩,b4⟩,b5⟩:=hB
 split at b5
 case h_2=>cases b5
 rename_i listed hq
 have hb:Below w.heap.size w w.drew:=(Below.refl _ _).drew
 have h2:St E nt M σ a w.drew:=⟨h.rel.below hb,fun t ht=>(Kp.below h.rel hb).R (h.tms t ht),h.off,h.sz,h.df⟩
 refine wp_region_any hm (wj7 (S:=gj7 none w.drew) (fins:=fins) _ _ _ _ ?_)
 rw [show ops.size = lq.length + (ops.size - lq.length) by omega]
 refine km7 b2 (fun c a d v w hh=>(hQp _ _ _ hh).elim) (gj7.refl _ _) lq _ listed a (fun j oj _ hl=>by rw [getD_replicate_false] at hl; cases hl) (by rw [show lq.length + (ops.size - lq.length) = ops.size by omega]; exact hq) (sbb7 hT b1 lq h2 b4 hw) fun a' _ ⟨M',σ',q1,q2⟩ => ?_
 rcases ieb7 (w0:=w.drew) hT b1 hQ T q1 b5 q2 (fun _=>gj7.refl _ _) with ⟨-,h⟩ | ⟨⟨g0,g1⟩,g2⟩
 ·exact h
 ·obtain ⟨m,hm⟩:∃ m,ops.size - lq.length = m + 1:=⟨ops.size - lq.length - 1,by omega⟩
  rw [hm]
  exact ⟨fun h0=>absurd h0 g1,fun i hi=>(g2 m hm i hi).resolve_left (by simp)⟩
theorem om7 (hT:lj7 P ty) (hm:P.follows .mixedOrders = true) {ord:Nat → List Nat × Nat × Option Nat}:∀ (p:Pl) (c:Code),okD nt ord p c = true → ∀ {Q:Exit → AS → Prop} {M:Mp} {σ:AS} {a:Act} {w:World},St E nt M σ a w → lw7 P ty ord p c Q σ →
  c.wp P (fun e a' w'=>(∀ ch,e ≠ .panic ch) ∧ ∃ M' σ',St E nt M' σ' a' w' ∧ Q e σ') a w
 | .a,c,hc,Q,M,σ,a,w,h,hw=>wp_mono (qp7 hT hm c hc h hw) fun e a1 w1 ⟨hp,M1,σ1,q1,q2,q3⟩=>⟨hp,M1,σ1,q1,q3⟩
 | .s p q,c,hc,Q,M,σ,a,w,h,hw=>by
  cases c with
  | seq x y =>
   simp only [okD,Bool.and_eq_true] at hc
   refine wp_seq (wp_mono (om7 hT hm p x hc.1 h (Q:=qq7 (lw7 P ty ord q y Q) Q) hw) fun e a1 w1 ⟨hp,M1,σ1,q1,q3⟩ => ?_)
   cases e with
   | normal=>exact om7 hT hm q y hc.2 q1 q3
   | panic ch=>exact absurd rfl (hp ch)
   | exit id=>exact ⟨hp,M1,σ1,q1,q3⟩
   | goto l=>exact ⟨hp,M1,σ1,q1,q3⟩
   | ret=>exact ⟨hp,M1,σ1,q1,q3⟩
   | outgrown=>exact ⟨hp,M1,σ1,q1,q3⟩
  | _=>exact Bool.noConfusion hc
 | .c p q,c,hc,Q,M,σ,a,w,h,hw=>by
  cases c with
  | cond x y z =>
   simp only [okD,Bool.and_eq_true] at hc
   have hw':zy7 (σ.rd x) (lw7 P ty ord p y Q σ) (lw7 P ty ord q z Q σ):=hw
   unfold zy7 at hw'
   split at hw'
   ·rename_i b hb
    have hv:=h.rd (x:=x) (by rw [hb])
    rw [hb] at hv
    have hv':a.eval x = .bool b:=hv
    refine wp_cond hv' ?_
    cases b with
    | true=>exact om7 hT hm p y hc.1 h (hw'.1 rfl)
    | false=>exact om7 hT hm q z hc.2 h (hw'.2 rfl)
   ·exact hw'.elim
  | _=>exact Bool.noConfusion hc
 | .b p,c,hc,Q,M,σ,a,w,h,hw=>by
  cases c with
  | block id x =>
   refine wp_block (wp_mono (om7 hT hm p x hc h (Q:=inB id Q) hw) fun e a1 w1 ⟨hp,M1,σ1,q1,q3⟩ => ?_)
   cases e with
   | exit j =>
    simp only [Exit.inBlock]
    simp only [inB] at q3
    split
    ·rename_i e; rw [if_pos e] at q3; exact ⟨fun _ e=>(by cases e),M1,σ1,q1,q3⟩
    ·rename_i e; rw [if_neg e] at q3; exact ⟨hp,M1,σ1,q1,q3⟩
   | normal=>exact ⟨hp,M1,σ1,q1,q3⟩
   | panic ch=>exact absurd rfl (hp ch)
   | goto l=>exact ⟨hp,M1,σ1,q1,q3⟩
   | ret=>exact ⟨hp,M1,σ1,q1,q3⟩
   | outgrown=>exact ⟨hp,M1,σ1,q1,q3⟩
  | _=>exact Bool.noConfusion hc
 | .k ks p q,c,hc,Q,M,σ,a,w,h,hw=>by
  cases c with
  | seq x y =>
   simp only [okD,Bool.and_eq_true] at hc
   obtain ⟨R,h1,h2⟩:=hw
   refine wp_seq (wp_mono (om7 hT hm p x hc.1 h h1) fun e a1 w1 ⟨hp,M1,σ1,q1,q3⟩ => ?_)
   cases e with
   | normal=>exact om7 hT hm q y hc.2 (q1.keepS ks) (h2 _ q3)
   | panic ch=>exact absurd rfl (hp ch)
   | exit id=>exact ⟨hp,M1,σ1,q1,q3⟩
   | goto l=>exact ⟨hp,M1,σ1,q1,q3⟩
   | ret=>exact ⟨hp,M1,σ1,q1,q3⟩
   | outgrown=>exact ⟨hp,M1,σ1,q1,q3⟩
  | _=>exact Bool.noConfusion hc
 | .t lq T r fins,c,hc,Q,M,σ,a,w,h,hw=>by
  cases c with
  | region id ops dr =>
   cases dr with
   | false=>exact Bool.noConfusion hc
   | true=>exact ktb7 hT hm hc h hw (fun M σ a w q1 q2=>⟨fun _ e=>(by cases e),M,σ,q1,q2⟩) fun c a w hh=>hh.1 c rfl
  | _=>exact Bool.noConfusion hc
section
variable {ord:Nat → List Nat × Nat × Option Nat} {Q:Exit → AS → Prop} {p q:Pl}
theorem apb7 {c:Code}:lw7 P ty ord .a c Q σ = awp P ty ord c Q σ:=by cases c <;> rfl
theorem qnb7 {x y:Code}:lw7 P ty ord (.s p q) (.seq x y) Q σ = lw7 P ty ord p x (qq7 (lw7 P ty ord q y Q) Q) σ:=rfl
theorem wnb7 {x:Operand} {y z:Code}:lw7 P ty ord (.c p q) (.cond x y z) Q σ = zy7 (σ.rd x) (lw7 P ty ord p y Q σ) (lw7 P ty ord q z Q σ):=rfl
theorem fmb7 {id:Nat} {x:Code}:lw7 P ty ord (.b p) (.block id x) Q σ = lw7 P ty ord p x (inB id Q) σ:=rfl
theorem qkb7 {lq:List Nat} {T:Tr} {id:Nat}:lw7 P ty ord (.t lq T r fins) (.region id ops true) Q σ = jrb7 P ty ops T r (pick ops lq) (Q .normal) σ:=rfl
theorem hfc7 {T:Tr}:jrb7 P ty ops T r [] K σ = njb7 P ty ops r T K σ:=rfl
theorem fec7 {T:Tr} {o:Oper} {l:List Oper}:jrb7 P ty ops T r (o :: l) K σ = bab7 P ty (some none) none ops σ o (jrb7 P ty ops T r l K):=rfl
theorem mec7:njb7 P ty ops r (.d true) K σ = mw7 P ty r.length none ops (pick ops r) K (upS σ):=rfl
theorem ucc7:njb7 P ty ops r .no K σ = True:=rfl
theorem qec7 {wr:Bool} {i:Nat} {t q:Tr}:njb7 P ty ops r (.br wr i t q) K σ = (bab7 P ty (puT wr) none ops σ (opD ops.toList i) (njb7 P ty ops r t K) ∧ njb7 P ty ops r q K σ):=by
 simp [njb7,zmb7,List.getD_eq_getElem?_getD,Array.getD_eq_getD_getElem?]
theorem gfc7:isW (puT true) = True:=rfl
theorem u_S {tm:Tm} {H:List Root}:upS ⟨tm,H⟩ = ⟨upT tm,upH H⟩:=rfl
theorem dfc7:upT [] = []:=rfl
theorem lec7 {k:Nat} {g:Bool} {v:RV} {l:Tm}:upT ((k,g,v) :: l) = (k,g,upR v) :: upT l:=rfl
theorem efc7:upH [] = []:=rfl
theorem bfc7 {l:List Root}:upH (.dead :: l) = .dead :: upH l:=rfl
theorem vec7 {l:List Root} {fz:Bool} {t:TypeId} {sz:Nat} {m:List AV}:upH (.live fz t sz (.box m) :: l) = .live fz t sz (.box (upL m)) :: upH l:=rfl
theorem yec7:upL [] = []:=rfl
theorem iec7 {x:AV} {l:List AV}:upL (x :: l) = upA x :: upL l:=rfl
theorem u_c {x:AV}:upR (.c x) = .c (upA x):=rfl
theorem u_a {l:List AV}:upR (.agg l) = .agg (upL l):=rfl
theorem u_f {f:FuncId} {l:List AV}:upR (.fn f l) = .fn f (upL l):=rfl
theorem sdc7 {k:IntKind} {n:Int}:upA (.int k n) = .int k n:=rfl
theorem mxb7 {b:Bool}:upA (.bool b) = .bool b:=rfl
theorem swb7:upA .nils = .nils:=rfl
theorem czb7:upA .junk = .junk:=rfl
theorem obc7 {id n i o:Nat}:upA (.ptr id n i o) = .ptr id n i o:=rfl
theorem u_h {id st len:Nat}:upA (.h id st len) = .h id st len:=rfl
theorem afc7 {n sz:Nat} {f:Nat → Nat → AV}:upA (.sl n sz f) = .sl n sz f:=rfl
theorem cfc7 {n:Nat} {f:Nat → AV}:upA (.rp n f) = .rp n f:=rfl
theorem dec7 {t:TypeId} {ck:List CK} {n:Nat}:upA (.ws t ck n) = .ws t (upK.upKs ck) n:=rfl
theorem hec7 {t:TypeId} {ck:List CK} {n:Nat}:upA (.wu t ck n) = .wu t (upK.upKs ck) n:=rfl
theorem oec7 {t:TypeId} {ck:List CK} {n:Nat}:upA (.wp t ck n) = .wp t (upK.upKs ck) n:=rfl
end
theorem aob7 (d : Nat) (p : Pl) (hT : lj7 P ty) (hm : P.follows .mixedOrders = true) {f : FuncId} {fn : Func} {c : Code} (ord : Nat → List Nat × Nat × Option Nat) (hf : P.funcs[f]? = some fn) (hb : fn.body = some c) (hname : (fn.name == "runtime.NumGoroutine") = false) {n : Nat} (hnt : fn.ntmps = n) {rs : List ResultVar} (hr : fn.results.toList = rs)
  (hok:okD n ord p c = true) {args:List RV} (hn:args.length ≤ n) {post:RV → Prop}
  (h:lw7 P ty ord p c (vac7 ty rs (hcc7 d post)) ⟨bpb7 0 args,[]⟩):zi7 P f args post:=by
 refine ⟨⟨fn,c,hf,hname,hb⟩,fun rho w vs hrho hc=>calls_of_wp hf hb ?_⟩
 have hrel:Rel ⟨w,rho⟩ ⟨fun _=>0,rho,fun _=>none⟩ [] w:=⟨Below.refl _ _,fun _ _ _ _ _ h=>(by cases h),fun _ _ _ _ _ h=>(by cases h),fun _ _ _ _ h=>(by cases h),fun _ _ _ _ h=>(by cases h),fun _ _ _ _ _ _ _ _ h=>(by cases h),hrho,fun b hb => .inl hb,⟨fun _ _ h=>(by cases h),fun _ _ _ _ _ _ _ h=>(by cases h),fun _ _ _ h=>(by cases h)⟩⟩
 have hst:=St.enter hrel (sf7.up (M:=⟨fun _=>0,rho,fun _=>none⟩) (H:=[]) hc) (n:=n) hn
 rw [hnt]
 refine wp_mono (om7 hT hm p c hok hst h) fun e a' w' ⟨hp,M',σ',q1,q3⟩ => ?_
 have fin:(rw7 ty σ' rs).1 ∧ hcc7 d post (one (rw7 ty σ' rs).2) σ'.H → a'.defers = [] ∧ ∃ v,(results fn a'.tmps).run P w' = .ok v w' ∧ ∃ r v' rho',Ending.returned v = .returned v' ∧ post r ∧ mk7 rho' w' r v' ∧ (∀ b,rho' b → rho b ∨ (w.heap.size ≤ b ∧ b < w'.heap.size)) ∧ Below w.heap.size w w':=by
  rintro ⟨h1,l,h2,h3,h4⟩
  obtain ⟨v,k1,k2⟩:=cx7 hT q1 hr h1
  rw [h2] at k1
  obtain ⟨us,rfl,k1⟩:=k1
  obtain ⟨l',l1,l2⟩:=ccb7 (rho:=fun b=>M'.rho b ∨ ∃ q,M'.tau b = some q) q1.rel.tau (fun b q hq => .inr ⟨q,hq⟩) h3 k1
  obtain ⟨m,m1,m2⟩:=h4 l' l1
  refine ⟨q1.df,_,k2, .agg m,_,_,rfl,m2,⟨us,rfl,l2.eqv m1⟩,fun b hb => ?_,q1.rel.bel⟩
  rcases hb with hb | ⟨q,hq⟩
  ·rcases q1.rel.src b hb with h | h
   ·exact .inl h
   ·exact .inr ⟨h,q1.rel.rlt b hb⟩
  ·exact .inr ⟨(q1.rel.tau.new b q hq).1,q1.rel.tau.lt hq⟩
 cases e with
 | normal=>exact fin q3
 | ret=>exact fin q3
 | panic ch=>exact absurd rfl (hp ch)
 | exit id=>exact q3.elim
 | goto l=>exact q3.elim
 | outgrown=>exact q3.elim
end
def wkM (b t:Nat):Option (List CK):=if t = 2 then some ckI else if t = 65 then some (wac7 b) else if t = 67 then some (hbc7 b) else none
def tyW (b:Nat):Ty:=fun t=>⟨(ty t).sz,(ty t).bytes,(ty t).k,(ty t).zero,wkM b t⟩
theorem ah7 (b t:Nat):(tyW b t).sz = (ty t).sz:=rfl
theorem ac7 (b t:Nat):(tyW b t).bytes = (ty t).bytes:=rfl
theorem gl7 (b t:Nat):(tyW b t).k = (ty t).k:=rfl
theorem yc7 (b t:Nat):(tyW b t).zero = (ty t).zero:=rfl
theorem bh7 (b t:Nat):(tyW b t).wk = wkM b t:=rfl
theorem ezb7 (b:Nat):lj7 Try.prog (tyW b):=fun t=>⟨by
 have:=(xy7 t).k
 show kOk _ (tyW b) t (ty t).k
 cases hq:(ty t).k <;> rw [hq] at this <;> exact this,(xy7 t).i⟩
def syb7:Tr := .br false 0 (.br false 1 (.br false 7 (.br true 8 (.d true) .no) .no) (.br false 7 (.br false 1 (.br true 8 (.d true) .no) (.br true 8 (.br false 1 (.d true) .no) .no)) .no)) (.br false 7 (.br false 0 (.br false 1 (.br true 8 (.d true) .no) (.br true 8 (.br false 1 (.d true) .no) .no)) (.br true 8 (.br false 0 (.br false 1 (.d true) .no) .no) .no)) .no)
def mzb7:Pl := .s .a (.s .a (.s .a (.s .a (.s .a (.s .a (.s (.s .a (.b (.s .a (.c .a (.s .a (.c .a (.s .a (.c (.s .a (.c (.t [2,3,4,5,6] syb7 [9,10,11] [8,9,10,11]) .a)) .a)))))))) .a))))))
def wsH (t:TypeId) (ck:List CK):Nat → AV
 | 0 => .nils
 | n + 1 => .ws t ck (n + 1)
theorem wo7 (t:TypeId) (ck:List CK):wsH t ck 0 = .nils:=rfl
theorem ho7 (t:TypeId) (ck:List CK) (n:Nat):wsH t ck (n + 1) = .ws t ck (n + 1):=rfl
theorem cbb7 (t:TypeId) (ck:List CK) (n k:Nat):(wsH t ck n).scp k = true:=by cases n <;> rfl
structure nhb7 (l:List Int) (what:Int):Prop where
 b:∀ v ∈ l, -128 ≤ v ∧ v ≤ 127
 len:l.length ≤ 9223372036854775807
 w:0 ≤ what ∧ what ≤ 255
structure xdc7 (t:qb7):Prop where
 tl:t.trucks.length ≤ 100000
 bl:t.bikes.length ≤ 100000
 tr:∀ l ∈ t.trucks,l.length ≤ 100000 ∧ ∀ v ∈ l,0 ≤ v ∧ v ≤ 1000000000000000
 bk:∀ r ∈ t.bikes,r.starts.length ≤ 100000 ∧ (0 ≤ r.out ∧ r.out ≤ 1000000000000000) ∧ (0 ≤ r.back ∧ r.back ≤ 1000000000000000) ∧ ∀ v ∈ r.starts,0 ≤ v ∧ v ≤ 1000000000000000
def rl7 (t:qb7) (l:List Int) (what:Int) (n:Nat) (a b:AV):List Root :=
 [.live false 50 2 (.box (dd7 t)), .live false 31 2 (.box [eI8 l, .int .u8 what]), .live false 50 2 (.box [.nils, .nils]), .live false 3 1 (.box [I6 n]), .live false 50 2 (.box [a,b])]
theorem op7 {l:List Int} (h:∀ v ∈ l, -128 ≤ v ∧ v ≤ 127) (n:Int) : -128 ≤ tw7 l n ∧ tw7 l n ≤ 127:=by
 unfold tw7
 split
 ·omega
 ·exact h _ (ub7 (Nat.mod_lt _ (by omega)) 0)
theorem qvb7 {t:qb7} {l:List Int} {what:Int} (ht:xdc7 t) (hs:nhb7 l what):zi7 Try.prog 10 [.agg (dd7 t), .agg [eI8 l, .int .u8 what]] tdb7:=by
 have htl:=ht.tl; have hbl:=ht.bl
 refine aob7 1 mzb7 (ezb7 200000) (by kernel_rfl) (fun n=>match n with | 22=>([],3,some 3) | _=>([],0,none)) Try.func10 rfl (by kernel_rfl) Try.ntmps10 (congrArg Array.toList Try.results10) (by kernel_rfl) (by simp) ?_
 simp -implicitDefEqProofs only [go_sem, ↓reduceIte,reduceCtorEq,Nat.reduceAdd,Nat.reduceLT,Nat.reduceEqDiff,Nat.reduceMul,Nat.reduceLeDiff,Nat.reduceSub,mzb7,apb7,qnb7,wnb7,fmb7,qkb7,dd7,ah7,ac7,gl7,yc7,bh7,wkM]
 refine wd7 (ι:=Nat × Nat) [2,3,4,6,7,20,21] [22] (fun s=>s.1 ≤ t.trucks.length ∧ s.2 ≤ s.1 * 100000) (fun s=>[.c (I6 s.1)]) (fun s=>rl7 t l what s.2 (wsH 65 ckT s.1) .nils) (fun s=>t.trucks.length - s.1) (by kernel_rfl) ⟨(0,0),⟨Nat.zero_le _,Nat.le_refl _⟩,rfl,rfl⟩ (fun s _=>⟨rfl,rfl,by simp only [rl7,dd7,whb7,qfb7,cbb7]; rfl,rfl⟩) ?_
 rintro ⟨k,m⟩ ⟨hk,hm⟩
 simp only [] at hk hm
 simp -implicitDefEqProofs only [go_sem, ↓reduceIte,reduceCtorEq,Nat.reduceAdd,Nat.reduceLT,Nat.reduceEqDiff,Nat.reduceMul,Nat.reduceLeDiff,Nat.reduceSub,apb7,qnb7,wnb7,fmb7,qkb7,rl7,dd7,ah7,ac7,gl7,yc7,bh7,wkM]
 refine ⟨fun h => ?_,fun h => ?_⟩
 ·have hlt:k < t.trucks.length:=by omega
  obtain ⟨hl1,hl2⟩:=ht.tr _ (ub7 hlt [])
  have hl1:(yo7 t k).length ≤ 100000:=hl1
  refine ⟨by omega, ?_⟩
  refine wd7 (ι:=Nat) [2,3,4,6,7,20,21,22,26,27] [10,28] (fun j=>j ≤ (yo7 t k).length) (fun j=>[.c (wsH 2 ckI j), .c (I6 j)]) (fun j=>rl7 t l what (m + j) (wsH 65 ckT k) .nils) (fun j=>(yo7 t k).length - j) (by kernel_rfl) ⟨0,Nat.zero_le _,rfl,rfl⟩ (fun s _=>⟨rfl,by simp only [sw7,gxb7,cbb7]; rfl,by simp only [rl7,dd7,whb7,qfb7,cbb7]; rfl,rfl⟩) ?_
  intro j hj
  have hxv:j < (yo7 t k).length → 0 ≤ (yo7 t k).getD j 0 ∧ (yo7 t k).getD j 0 ≤ 1000000000000000:=fun hj=>hl2 _ (ub7 hj 0)
  have had:=op7 hs.b ((m + j:Nat):Int)
  rcases j with _ | j <;> rcases k with _ | k
  all_goals
   simp -implicitDefEqProofs only [go_sem, ↓reduceIte,reduceCtorEq,Nat.reduceAdd,Nat.reduceLT,Nat.reduceEqDiff,Nat.reduceMul,Nat.reduceLeDiff,Nat.reduceSub,apb7,qnb7,wnb7,fmb7,qkb7,rl7,dd7,ah7,ac7,gl7,yc7,bh7,wkM,wo7,ho7]
   refine ⟨fun h2 => ?_,fun h2 => ?_⟩
  ·have hx:=hxv (by omega)
   have had:=op7 hs.b (m:Int)
   refine ⟨by omega, ?_⟩
   refine tj7 (l:=l) (what:=what) (kn:=3) (ks:=1) (n:=((m + 0:Nat):Int)) (.inl rfl) rfl rfl (by decide) hs.b hs.len (by omega) (by omega) ?_
   simp -implicitDefEqProofs only [go_sem, ↓reduceIte,reduceCtorEq,Nat.reduceAdd,Nat.reduceLT,Nat.reduceEqDiff,Nat.reduceMul,Nat.reduceLeDiff,Nat.reduceSub,apb7,qnb7,wnb7,fmb7,qkb7,rl7,dd7,ah7,ac7,gl7,yc7,bh7,wkM,wo7,ho7]
   exact ⟨by omega,by omega,1,by omega,rfl,rfl,by omega⟩
  ·exact ⟨by omega,(1,m),⟨by omega,by (try simp only []); omega⟩,rfl,rfl,by simp only []; omega⟩
  ·have hx:=hxv (by omega)
   have had:=op7 hs.b (m:Int)
   refine ⟨by omega, ?_⟩
   refine tj7 (l:=l) (what:=what) (kn:=3) (ks:=1) (n:=((m + 0:Nat):Int)) (.inl rfl) rfl rfl (by decide) hs.b hs.len (by omega) (by omega) ?_
   simp -implicitDefEqProofs only [go_sem, ↓reduceIte,reduceCtorEq,Nat.reduceAdd,Nat.reduceLT,Nat.reduceEqDiff,Nat.reduceMul,Nat.reduceLeDiff,Nat.reduceSub,apb7,qnb7,wnb7,fmb7,qkb7,rl7,dd7,ah7,ac7,gl7,yc7,bh7,wkM,wo7,ho7]
   exact ⟨by omega,by omega,1,by omega,rfl,rfl,by omega⟩
  ·exact ⟨by omega,by omega,(k + 2,m),⟨by omega,Nat.le_trans hm (Nat.mul_le_mul_right _ (by omega))⟩,rfl,rfl,by simp only []; omega⟩
  ·have hx:=hxv (by omega)
   refine ⟨by omega, ?_⟩
   refine tj7 (l:=l) (what:=what) (kn:=3) (ks:=1) (n:=((m + (j + 1):Nat):Int)) (.inl rfl) rfl rfl (by decide) hs.b hs.len (by omega) (by omega) ?_
   simp -implicitDefEqProofs only [go_sem, ↓reduceIte,reduceCtorEq,Nat.reduceAdd,Nat.reduceLT,Nat.reduceEqDiff,Nat.reduceMul,Nat.reduceLeDiff,Nat.reduceSub,apb7,qnb7,wnb7,fmb7,qkb7,rl7,dd7,ah7,ac7,gl7,yc7,bh7,wkM,wo7,ho7]
   exact ⟨by omega,by omega,by omega,j + 2,by omega,rfl,rfl,by omega⟩
  ·exact ⟨by omega,by omega,(1,m + (j + 1)),⟨by omega,by (try simp only []); omega⟩,rfl,rfl,by simp only []; omega⟩
  ·have hx:=hxv (by omega)
   refine ⟨by omega, ?_⟩
   refine tj7 (l:=l) (what:=what) (kn:=3) (ks:=1) (n:=((m + (j + 1):Nat):Int)) (.inl rfl) rfl rfl (by decide) hs.b hs.len (by omega) (by omega) ?_
   simp -implicitDefEqProofs only [go_sem, ↓reduceIte,reduceCtorEq,Nat.reduceAdd,Nat.reduceLT,Nat.reduceEqDiff,Nat.reduceMul,Nat.reduceLeDiff,Nat.reduceSub,apb7,qnb7,wnb7,fmb7,qkb7,rl7,dd7,ah7,ac7,gl7,yc7,bh7,wkM,wo7,ho7]
   exact ⟨by omega,by omega,by omega,j + 2,by omega,rfl,rfl,by omega⟩
  ·exact ⟨by omega,by omega,by omega,(k + 2,m + (j + 1)),⟨by omega,by (try simp only []); omega⟩,rfl,rfl,by simp only []; omega⟩
 ·obtain rfl:k = t.trucks.length:=by omega
  clear hk h
  refine wd7 (ι:=Nat × Nat) [3,4,6,7,47,48] [49] (fun s=>s.1 ≤ t.bikes.length ∧ s.2 ≤ 10000000000 + s.1 * 100002) (fun s=>[.c (I6 s.1)]) (fun s=>rl7 t l what s.2 (wsH 65 ckT t.trucks.length) (wsH 67 ckR s.1)) (fun s=>t.bikes.length - s.1) (by kernel_rfl) ⟨(0,m),⟨Nat.zero_le _,by simp only []; omega⟩,rfl,rfl⟩ (fun s _=>⟨rfl,rfl,by simp only [rl7,dd7,whb7,qfb7,cbb7]; rfl,rfl⟩) ?_
  clear hm
  rintro ⟨k,m⟩ ⟨hk,hm⟩
  simp only [] at hk hm
  simp -implicitDefEqProofs only [go_sem, ↓reduceIte,reduceCtorEq,Nat.reduceAdd,Nat.reduceLT,Nat.reduceEqDiff,Nat.reduceMul,Nat.reduceLeDiff,Nat.reduceSub,apb7,qnb7,wnb7,fmb7,qkb7,rl7,dd7,ah7,ac7,gl7,yc7,bh7,wkM]
  refine ⟨fun h => ?_,fun h => ?_⟩
  ·have hlt:k < t.bikes.length:=by omega
   obtain ⟨hr1,hr2,hr3,hr4⟩:=ht.bk _ (ub7 hlt ⟨0,[],0⟩)
   have hr1:(yk7 t k).starts.length ≤ 100000:=hr1
   have hr2:0 ≤ (yk7 t k).out ∧ (yk7 t k).out ≤ 1000000000000000:=hr2
   have hr3:0 ≤ (yk7 t k).back ∧ (yk7 t k).back ≤ 1000000000000000:=hr3
   have had:=op7 hs.b (m:Int)
   refine ⟨by omega, ?_⟩
   refine tj7 (l:=l) (what:=what) (kn:=3) (ks:=1) (n:=(m:Int)) (.inl rfl) rfl rfl (by decide) hs.b hs.len (by omega) (by omega) ?_
   generalize hv0:(yk7 t k).out + tw7 l (m:Int) = v0
   simp -implicitDefEqProofs only [go_sem, ↓reduceIte,reduceCtorEq,Nat.reduceAdd,Nat.reduceLT,Nat.reduceEqDiff,Nat.reduceMul,Nat.reduceLeDiff,Nat.reduceSub,apb7,qnb7,wnb7,fmb7,qkb7,rl7,dd7,ah7,ac7,gl7,yc7,bh7,wkM]
   refine wd7 (ι:=Nat) [3,4,6,7,14,15,47,48,49,59,60] [61] (fun j=>j ≤ (yk7 t k).starts.length) (fun j=>[.c (I6 j)]) (fun j=>rl7 t l what (m + 1 + j) (wsH 65 ckT t.trucks.length) (wsH 67 ckR k) ++ [.live false 67 3 (.box [I6 (yk7 t k).out,bi7 (yk7 t k).starts,I6 (yk7 t k).back]), .live false 67 3 (.box [I6 v0,wsH 2 ckI j,I6 0])]) (fun j=>(yk7 t k).starts.length - j) (by kernel_rfl) ⟨0,Nat.zero_le _,rfl,rfl⟩ (fun s _=>⟨rfl,rfl,by simp only [rl7,dd7,List.cons_append,List.nil_append,whb7,qfb7,cbb7]; rfl,rfl⟩) ?_
   intro j hj
   have hxv:j < (yk7 t k).starts.length → 0 ≤ (yk7 t k).starts.getD j 0 ∧ (yk7 t k).starts.getD j 0 ≤ 1000000000000000:=fun hj=>hr4 _ (ub7 hj 0)
   have had1:=op7 hs.b ((m + 1 + j:Nat):Int)
   rcases j with _ | j <;> rcases k with _ | k
   all_goals
    simp -implicitDefEqProofs only [go_sem, ↓reduceIte,reduceCtorEq,Nat.reduceAdd,Nat.reduceLT,Nat.reduceEqDiff,Nat.reduceMul,Nat.reduceLeDiff,Nat.reduceSub,apb7,qnb7,wnb7,fmb7,qkb7,rl7,dd7,ah7,ac7,gl7,yc7,bh7,wkM,wo7,ho7]
    refine ⟨fun h2 => ?_,fun h2 => ?_⟩
   ·have hx:=hxv (by omega)
    simp only [Nat.add_zero] at had1
    refine ⟨by omega, ?_⟩
    refine tj7 (l:=l) (what:=what) (kn:=3) (ks:=1) (n:=((m + 1 + 0:Nat):Int)) (.inr rfl) rfl rfl (by decide) hs.b hs.len (by omega) (by omega) ?_
    simp -implicitDefEqProofs only [go_sem, ↓reduceIte,reduceCtorEq,Nat.reduceAdd,Nat.reduceLT,Nat.reduceEqDiff,Nat.reduceMul,Nat.reduceLeDiff,Nat.reduceSub,ah7,ac7,gl7,yc7,bh7,wkM,wo7,ho7]
    exact ⟨by omega,by omega,1,by omega,rfl,rfl,by omega⟩
   ·simp only [Nat.add_zero] at had1
    refine tj7 (l:=l) (what:=what) (kn:=3) (ks:=1) (n:=((m + 1 + 0:Nat):Int)) (.inl rfl) rfl rfl (by decide) hs.b hs.len (by omega) (by omega) ?_
    simp -implicitDefEqProofs only [go_sem, ↓reduceIte,reduceCtorEq,Nat.reduceAdd,Nat.reduceLT,Nat.reduceEqDiff,Nat.reduceMul,Nat.reduceLeDiff,Nat.reduceSub,ah7,ac7,gl7,yc7,bh7,wkM,wo7,ho7]
    exact ⟨by omega,by omega,(1,m + 2),⟨by omega,by (try simp only []); omega⟩,rfl,rfl,by simp only []; omega⟩
   ·have hx:=hxv (by omega)
    simp only [Nat.add_zero] at had1
    refine ⟨by omega, ?_⟩
    refine tj7 (l:=l) (what:=what) (kn:=3) (ks:=1) (n:=((m + 1 + 0:Nat):Int)) (.inr rfl) rfl rfl (by decide) hs.b hs.len (by omega) (by omega) ?_
    simp -implicitDefEqProofs only [go_sem, ↓reduceIte,reduceCtorEq,Nat.reduceAdd,Nat.reduceLT,Nat.reduceEqDiff,Nat.reduceMul,Nat.reduceLeDiff,Nat.reduceSub,ah7,ac7,gl7,yc7,bh7,wkM,wo7,ho7]
    exact ⟨by omega,by omega,1,by omega,rfl,rfl,by omega⟩
   ·simp only [Nat.add_zero] at had1
    refine tj7 (l:=l) (what:=what) (kn:=3) (ks:=1) (n:=((m + 1 + 0:Nat):Int)) (.inl rfl) rfl rfl (by decide) hs.b hs.len (by omega) (by omega) ?_
    simp -implicitDefEqProofs only [go_sem, ↓reduceIte,reduceCtorEq,Nat.reduceAdd,Nat.reduceLT,Nat.reduceEqDiff,Nat.reduceMul,Nat.reduceLeDiff,Nat.reduceSub,ah7,ac7,gl7,yc7,bh7,wkM,wo7,ho7]
    exact ⟨by omega,by omega,by omega,(k + 2,m + 2),⟨by omega,by (try simp only []); omega⟩,rfl,rfl,by simp only []; omega⟩
   ·have hx:=hxv (by omega)
    refine ⟨by omega, ?_⟩
    refine tj7 (l:=l) (what:=what) (kn:=3) (ks:=1) (n:=((m + 1 + (j + 1):Nat):Int)) (.inr rfl) rfl rfl (by decide) hs.b hs.len (by omega) (by omega) ?_
    simp -implicitDefEqProofs only [go_sem, ↓reduceIte,reduceCtorEq,Nat.reduceAdd,Nat.reduceLT,Nat.reduceEqDiff,Nat.reduceMul,Nat.reduceLeDiff,Nat.reduceSub,ah7,ac7,gl7,yc7,bh7,wkM,wo7,ho7]
    exact ⟨by omega,by omega,by omega,j + 2,by omega,rfl,rfl,by omega⟩
   ·refine tj7 (l:=l) (what:=what) (kn:=3) (ks:=1) (n:=((m + 1 + (j + 1):Nat):Int)) (.inl rfl) rfl rfl (by decide) hs.b hs.len (by omega) (by omega) ?_
    simp -implicitDefEqProofs only [go_sem, ↓reduceIte,reduceCtorEq,Nat.reduceAdd,Nat.reduceLT,Nat.reduceEqDiff,Nat.reduceMul,Nat.reduceLeDiff,Nat.reduceSub,ah7,ac7,gl7,yc7,bh7,wkM,wo7,ho7]
    exact ⟨by omega,by omega,(1,m + 1 + (j + 1) + 1),⟨by omega,by (try simp only []); omega⟩,rfl,rfl,by simp only []; omega⟩
   ·have hx:=hxv (by omega)
    refine ⟨by omega, ?_⟩
    refine tj7 (l:=l) (what:=what) (kn:=3) (ks:=1) (n:=((m + 1 + (j + 1):Nat):Int)) (.inr rfl) rfl rfl (by decide) hs.b hs.len (by omega) (by omega) ?_
    simp -implicitDefEqProofs only [go_sem, ↓reduceIte,reduceCtorEq,Nat.reduceAdd,Nat.reduceLT,Nat.reduceEqDiff,Nat.reduceMul,Nat.reduceLeDiff,Nat.reduceSub,ah7,ac7,gl7,yc7,bh7,wkM,wo7,ho7]
    exact ⟨by omega,by omega,by omega,j + 2,by omega,rfl,rfl,by omega⟩
   ·refine tj7 (l:=l) (what:=what) (kn:=3) (ks:=1) (n:=((m + 1 + (j + 1):Nat):Int)) (.inl rfl) rfl rfl (by decide) hs.b hs.len (by omega) (by omega) ?_
    simp -implicitDefEqProofs only [go_sem, ↓reduceIte,reduceCtorEq,Nat.reduceAdd,Nat.reduceLT,Nat.reduceEqDiff,Nat.reduceMul,Nat.reduceLeDiff,Nat.reduceSub,ah7,ac7,gl7,yc7,bh7,wkM,wo7,ho7]
    exact ⟨by omega,by omega,by omega,(k + 2,m + 1 + (j + 1) + 1),⟨by omega,by (try simp only []); omega⟩,rfl,rfl,by simp only []; omega⟩
  ·obtain rfl:k = t.bikes.length:=by omega
   clear hm h hk
   generalize t.trucks.length = nT at htl ⊢
   generalize t.bikes.length = nB at hbl ⊢
   rcases nT with _ | nT <;> rcases nB with _ | nB
   all_goals
    simp -implicitDefEqProofs only [go_sem, ↓reduceIte,reduceCtorEq,Nat.reduceAdd,Nat.reduceLT,Nat.reduceEqDiff,Nat.reduceMul,Nat.reduceLeDiff,Nat.reduceSub,apb7,qnb7,wnb7,fmb7,qkb7,ah7,ac7,gl7,yc7,bh7,wkM,Int.zero_tdiv,eq_self,wo7,ho7,u_S,dfc7,lec7,efc7,bfc7,vec7,yec7,iec7,u_c,u_a,u_f,sdc7,mxb7,swb7,czb7,obc7,u_h,afc7,cfc7,dec7,hec7,oec7,upK,upK.upKs,syb7,hfc7,fec7,mec7,ucc7,qec7,gfc7,rl7,dd7]
   all_goals
    try have htd:((nB + 1:Nat):Int).tdiv 2 = ((nB + 1:Nat):Int) / 2:=Int.tdiv_eq_ediv_of_nonneg (by omega)
    repeat' (first | exact ksb7 (k:=200000) (by first | exact .inl rfl | exact .inr ⟨_,by omega,rfl⟩) (by first | exact .inl rfl | exact .inr ⟨_,by omega,rfl⟩) | exact ksb7 (k:=200001) (by first | exact .inl rfl | exact .inr ⟨_,by omega,rfl⟩) (by first | exact .inl rfl | exact .inr ⟨_,by omega,rfl⟩) | exact And.intro (by omega) (by omega) | refine And.intro ?_ ?_ | intro _)
    all_goals omega
end Go.Proofs.Ytahffcepagopmaa.Ab
namespace Go.Proofs.Ytahffcepagopmaa
open Go.RowKit Go.WideShapes Go.ChangeShapes Go.ChangeAt
def ex7 (B:Nat) (out:List (List da7)):Prop := ∀ t ∈ out, ∀ u ∈ t,0 ≤ u.sat ∧ u.sat < (B:Int)
theorem ex7.ready {B:Nat} {many room:Int} {q:Bool} {st:List (List da7) × Int} (h:ex7 B st.1):ex7 B (readyQ many room q st).1:=by
 unfold readyQ
 split
 ·intro t ht
  rcases List.mem_append.1 ht with ht | ht
  ·exact h t ht
  ·obtain rfl:=List.mem_singleton.1 ht
   intro u hu; cases hu
 ·exact h
theorem ex7.add {B:Nat} {out:List (List da7)} (h:ex7 B out) {s:da7} (hs:0 ≤ s.sat ∧ s.sat < (B:Int)):ex7 B (vb7 out s):=by
 intro t ht
 unfold vb7 at ht
 rcases List.mem_or_eq_of_mem_set ht with ht | rfl
 ·exact h t ht
 ·intro u hu
  rcases List.mem_append.1 hu with hu | hu
  ·by_cases hk:out.length - 1 < out.length
   ·rw [List.getD_eq_getElem?_getD,List.getElem?_eq_getElem hk] at hu
    exact h _ (List.getElem_mem hk) u hu
   ·rw [List.getD_eq_getElem?_getD,List.getElem?_eq_none (by omega)] at hu; cases hu
  ·obtain rfl:=List.mem_singleton.1 hu; exact hs
def qcb7:Shape (List Int × Int) where
 sz:=2
 rep:=fun w F x cs => ∃ v,cs = [v, .int .u8 x.2] ∧ (0 ≤ x.2 ∧ x.2 ≤ 255) ∧ (la7 i8S).rep w F x.1 [v]
 len:=by rintro w F x cs ⟨_,rfl,_⟩; rfl
 keep:=by rintro w w' F x cs ⟨_,rfl,h1,h2⟩ ha; exact ⟨_,rfl,h1,(la7 i8S).keep h2 ha⟩
 weak:=by rintro w F G x cs ⟨_,rfl,h1,h2⟩ ha; exact ⟨_,rfl,h1,(la7 i8S).weak h2 ha⟩
 lt:=by rintro w F x cs ⟨_,rfl,h1,h2⟩; exact ⟨_,rfl,h1,(la7 i8S).lt h2⟩
theorem dsb7:tl7 Try.prog 31 qcb7:=by
 intro H enc w base spare held fuel cs x h
 have hl:cs.length = 2:=(ip7 Try.underlying31 h).trans (by kernel_rfl)
 match cs,hl with
 | [v0,v1],_ =>
  obtain ⟨_,_,f0⟩:=id7 Try.underlying31 h 0 29 0 1 rfl (by kernel_rfl)
  obtain ⟨_,_,f1⟩:=id7 Try.underlying31 h 1 5 1 1 rfl (by kernel_rfl)
  obtain ⟨a0,r0⟩:=sk7 (S:=i8S) Try.underlying29 (by kernel_rfl) dzb7 _ _ _ _ _ _ _ _ _ f0
  obtain ⟨a1,r1⟩:=to7 _ _ _ _ _ _ _ _ _ f1
  obtain ⟨e,hw⟩:=r1
  obtain rfl:=(List.cons.inj e).1
  exact ⟨⟨a0,a1⟩,v0,rfl,hw,r0⟩
section
variable {H:Type} {enc:TypeId × Value → H} {P:Program} {w:World} {base:Nat} {spare:Nat → Bool} {held:Bool}
end
namespace Ab
theorem ftb7 {x:ba7} {p:sa7} (h:gs7 x p):xdc7 (za7 x p):=by
 have hw:=nob7 h
 refine ⟨by rw [ro7]; exact h.tl,by rw [lo7]; exact h.bl,fun l hl=>⟨?_,hw.1 l hl⟩,fun r hr=>⟨?_,hw.2 r hr⟩⟩
 ·obtain ⟨k,hk,rfl⟩:=List.getElem_of_mem hl
  have hk2:k < p.trucks.length:=by rw [← ro7 x p]; exact hk
  rw [web7 x p hk2 hk]
  exact (h.t1 _ (List.getElem_mem hk2)).1
 ·obtain ⟨k,hk,rfl⟩:=List.getElem_of_mem hr
  have hk2:k < p.bikes.length:=by rw [← lo7 x p]; exact hk
  rw [cfb7 x p hk2 hk]
  exact (h.b1 _ (List.getElem_mem hk2)).1
def ucb7 (s:List Int × Int):List AV:=[eI8 s.1, .int .u8 s.2]
theorem wec7:Fwd i8S (fun x _ => .int .i8 x):=by
 rintro w F x cs ⟨rfl, -⟩ j hj
 have hj:j < 1:=hj
 obtain rfl:j = 0:=by omega
 exact ⟨_,rfl,rfl⟩
theorem zvb7 {w:World} {F:Nat → Prop} {s:List Int × Int} {cs:List Value} (h:qcb7.rep w F s cs):ue7 F w (ucb7 s) cs:=by
 obtain ⟨v,rfl,h1,h2⟩:=h
 exact ⟨_,_,rfl,fs (e:=fun x _ => .int .i8 x) (0:Int) wec7 h2,_,_,rfl,rfl,rfl⟩
theorem pvb7 {w:World} {F:Nat → Prop} {s:List Int × Int} {cs:List Value} (h:qcb7.rep w F s cs):nhb7 s.1 s.2:=by
 obtain ⟨v,rfl,h1,a,b,off,c,e1,g1,g2,g3,g4⟩:=h
 refine ⟨fun u hu => ?_,Nat.le_trans g1 g2,h1⟩
 obtain ⟨i,hi,rfl⟩:=List.getElem_of_mem hu
 obtain ⟨es,⟨-,k1⟩, -⟩:=g4 i hi
 exact k1
theorem qqb7 {pu:Pu} {H:List Root} {x:ba7} {p:sa7} {s:List Int × Int} {args:List RV} {K:RV → List Root → Prop} (h:gs7 x p) (hs:nhb7 s.1 s.2) (ho:gnb7 H args) (he:bt7 H args = [.agg (dd7 (za7 x p)), .agg (ucb7 s)]) (hH:nl7 H args = H)
  (hK:∀ t:qb7,bu7 t → t.trucks.length ≤ 200000 → t.bikes.length ≤ 200000 → K (.agg (dd7 t)) H):uu7 Try.prog pu 10 args H K :=
 yv7 (qvb7 (ftb7 h) hs) ho he hH (by
  rintro r ⟨t,rfl,h1,h2,h3,h4⟩
  exact hK t ⟨h1,h2⟩ h3 h4)
theorem qlb7 {y:ba7} {p:sa7} {t:qb7} (hc:ia7 y p = 0):na7 y p t = if qn7 p t = false then 4 else if jvb7 y p t = false then 12 else 0:=by
 rw [ptb7 t (vh7 hc)]
 unfold na7
 rw [if_neg (by simpa using hc)]
end Ab
end Go.Proofs.Ytahffcepagopmaa
namespace Go.Proofs.Ytahffcepagopmaa.Ab
open Go.RowKit
theorem oeb7 (x:ba7) (a b:Int):oqb7 x a.toNat b.toNat = zh7 x a b:=rfl
theorem qab7 (x:ba7) (a:Int):oqb7 x a.toNat 0 = zh7 x a 0:=rfl
theorem sab7 (x:ba7) (b:Int):oqb7 x 0 b.toNat = zh7 x 0 b:=rfl
theorem ahb7 {α:Type} (z:Int) (m:List α) (f:α → Int):(z :: m.map f).length = m.length + 1:=by simp
theorem jcb7 {α:Type} (z:Int) (m:List α) (f:α → Int) (d:α) {j:Nat} (h:j < m.length):(z :: m.map f).getD (j + 1) 0 = f (m.getD j d):=by
 rw [of7 (by rw [ahb7]; omega),of7 h]; simp
theorem umb7 {x:ba7} {α:Type} (z:Int) (m:List α) (f:α → Int) (d:α) {j:Nat} (h:j < m.length):ii7 x (z :: m.map f) (j + 1) = ii7 x (z :: m.map f) j + zh7 x ((z :: m.map f).getD j 0) (f (m.getD j d)):=by
 rw [vm7,ahb7,Nat.mod_eq_of_lt (by omega),jcb7 z m f d h]
theorem rsb7 {x:ba7} {α:Type} (z:Int) (m:List α) (f:α → Int):lcb7 x (z :: m.map f) = ii7 x (z :: m.map f) m.length + zh7 x ((z :: m.map f).getD m.length 0) z:=by
 unfold lcb7
 rw [ahb7,vm7,ahb7,Nat.mod_self]; rfl
theorem lhb7 {x:ba7} {p:sa7} (ok:gs7 x p) (hsm:yb7 p):zi7 Try.prog 12 [.agg (qf7 x), .agg (if7 p)] (fun r=>r = .c (I6 (qw7 x p))):=by
 have gd:=ok.good
 have hs1:=gd.sats; have hc1:=gd.custs; have htl:=ok.tl; have hbl:=ok.bl
 have hndx:nodes x = 1 + x.sats.length + x.custs.length:=rfl
 unfold yb7 at hsm
 refine kk7 xy7 (by kernel_rfl) (fun _=>([],0,none)) Try.func12 rfl (by kernel_rfl) Try.ntmps12 (congrArg Array.toList Try.results12) (by kernel_rfl) (by simp) ?_
 simp -implicitDefEqProofs only [go_sem, ↓reduceIte,reduceCtorEq,Nat.reduceAdd,Nat.reduceLT,Nat.reduceEqDiff,Nat.reduceMul,Nat.reduceLeDiff,Nat.reduceSub,qf7,if7]
 refine wd7 (ι:=Nat) [2,3,17,18] [5,19] (fun k=>k ≤ p.trucks.length) (fun k=>[.c (I6 (pn7 x p.trucks k)), .c (I6 k)]) (fun _=>_) (fun k=>p.trucks.length - k) (by kernel_rfl) ⟨0,Nat.zero_le _,rfl,rfl⟩ (fun k _=>⟨rfl,rfl,rfl,rfl⟩) ?_
 intro k hk
 have hcb:=rt7 gd p.trucks k hk
 have htu:=yi7 (l:=p.trucks) (k:=k)
 simp -implicitDefEqProofs only [go_sem, ↓reduceIte,reduceCtorEq,Nat.reduceAdd,Nat.reduceLT,Nat.reduceEqDiff,Nat.reduceMul,Nat.reduceLeDiff,Nat.reduceSub]
 refine ⟨fun h => ?_,fun h => ?_⟩
 ·have hlt:k < p.trucks.length:=by omega
  have hst:=ok.t1 _ (ub7 hlt [])
  have hst1:(tc7 p k).length ≤ 100000:=hst.1
  have hst2:∀ j,j < (tc7 p k).length → 0 ≤ (stN (tc7 p k) j).sat ∧ (stN (tc7 p k) j).sat < x.sats.length:=fun j hj=>hst.2 _ (ub7 hj _)
  have hsucc:pn7 x p.trucks (k + 1) = pn7 x p.trucks k + lcb7 x (ra7 (tc7 p k)):=by rw [qr7 hlt]; unfold tc7; rw [of7 hlt]
  refine ⟨by omega, ?_⟩
  refine wd7 (ι:=Nat) [2,3,17,18,19,24,25] [5,8,26] (fun j=>j ≤ (tc7 p k).length) (fun j=>[.c (I6 (pn7 x p.trucks k + ii7 x (ra7 (tc7 p k)) j)), .c (I6 ((ra7 (tc7 p k)).getD j 0)), .c (I6 j)]) (fun _=>_) (fun j=>(tc7 p k).length - j) (by kernel_rfl) ⟨0,Nat.zero_le _,by simp [ii7,gets,lk,ul7,ra7],rfl⟩ (fun k _=>⟨rfl,rfl,rfl,rfl⟩) ?_
  intro j hj
  have hwb:=oq7 gd (ra7 (tc7 p k)) j
  have hnd:0 ≤ (ra7 (tc7 p k)).getD j 0 ∧ (ra7 (tc7 p k)).getD j 0 < (nodes x:Int):=by
   cases j with
   | zero=>show (0:Int) ≤ 0 ∧ (0:Int) < _; omega
   | succ i =>
    have:=hst2 i hj
    have e:(ra7 (tc7 p k)).getD (i + 1) 0 = 1 + (stN (tc7 p k) i).sat:=jcb7 0 (tc7 p k) (fun s=>1 + s.sat) ⟨0,0⟩ hj
    rw [e]; omega
  have hse:j < (tc7 p k).length → ii7 x (ra7 (tc7 p k)) (j + 1) = ii7 x (ra7 (tc7 p k)) j + zh7 x ((ra7 (tc7 p k)).getD j 0) (1 + (stN (tc7 p k) j).sat) ∧ (ra7 (tc7 p k)).getD (j + 1) 0 = 1 + (stN (tc7 p k) j).sat:=fun h=>⟨umb7 0 (tc7 p k) (fun s=>1 + s.sat) ⟨0,0⟩ h,jcb7 0 (tc7 p k) (fun s=>1 + s.sat) ⟨0,0⟩ h⟩
  have hen:j = (tc7 p k).length → lcb7 x (ra7 (tc7 p k)) = ii7 x (ra7 (tc7 p k)) j + zh7 x ((ra7 (tc7 p k)).getD j 0) 0:=fun e=>by subst e; exact rsb7 0 (tc7 p k) (fun s=>1 + s.sat)
  have hca:=oj7 gd ((ra7 (tc7 p k)).getD j 0) (1 + (stN (tc7 p k) j).sat)
  have hca0:=oj7 gd ((ra7 (tc7 p k)).getD j 0) 0
  generalize (ra7 (tc7 p k)).getD j 0 = node at hnd hse hen hca hca0
  generalize ii7 x (ra7 (tc7 p k)) j = way at hwb hse hen
  simp -implicitDefEqProofs only [go_sem, ↓reduceIte,reduceCtorEq,Nat.reduceAdd,Nat.reduceLT,Nat.reduceEqDiff,Nat.reduceMul,Nat.reduceLeDiff,Nat.reduceSub,oeb7,qab7,sab7]
  refine ⟨fun h2 => ?_,fun h2 => ?_⟩
  ·have hjl:j < (tc7 p k).length:=by omega
   have h3:=hst2 j hjl
   obtain ⟨h4,h5⟩:=hse hjl
   refine ⟨by omega,hnd,by omega,by omega,by omega,by omega,by omega,j + 1,by omega, ?_,by omega⟩
   rw [h4,h5,Int.add_assoc]; rfl
  ·obtain rfl:j = (tc7 p k).length:=by omega
   refine ⟨hnd,by omega,by omega,by omega,k + 1,by omega, ?_,by omega⟩
   rw [hsucc,hen rfl,Int.add_assoc]; rfl
 ·obtain rfl:k = p.trucks.length:=by omega
  have hcd:qw7 x p = pn7 x p.trucks p.trucks.length + ql7 x p.bikes p.bikes.length:=rfl
  generalize pn7 x p.trucks p.trucks.length = ct at hcb hcd
  rw [hcd]
  refine wd7 (ι:=Nat) [2,57,58] [5,59] (fun k=>k ≤ p.bikes.length) (fun k=>[.c (I6 (ct + ql7 x p.bikes k)), .c (I6 k)]) (fun _=>_) (fun k=>p.bikes.length - k) (by kernel_rfl) ⟨0,Nat.zero_le _,by simp [ql7,gets,lk,ul7],rfl⟩ (fun k _=>⟨rfl,rfl,rfl,rfl⟩) ?_
  intro k hk
  have hcb2:=ft7 gd p.bikes k hk
  have htu2:=qi7 (l:=p.bikes) (k:=k)
  simp -implicitDefEqProofs only [go_sem, ↓reduceIte,reduceCtorEq,Nat.reduceAdd,Nat.reduceLT,Nat.reduceEqDiff,Nat.reduceMul,Nat.reduceLeDiff,Nat.reduceSub]
  refine ⟨fun h => ?_,fun h => ?_⟩
  ·have hlt:k < p.bikes.length:=by omega
   have hb1:=ok.b1 _ (ub7 hlt ⟨0,[]⟩)
   have hsat:0 ≤ (sc7 p k).sat ∧ (sc7 p k).sat < x.sats.length:=hb1.2.1
   have hsl:(sc7 p k).stops.length ≤ 100000:=hb1.1
   have hco:∀ j,j < (sc7 p k).stops.length → bc7 x ((sc7 p k).stops.getD j 0):=fun j hj=>hb1.2.2 _ (ub7 hj _)
   have hsucc:ql7 x p.bikes (k + 1) = ql7 x p.bikes k + lcb7 x (ta7 x (sc7 p k)):=by rw [mr7 hlt]; unfold sc7; rw [of7 hlt]
   refine ⟨by omega,by omega, ?_⟩
   refine wd7 (ι:=Nat) [2,12,57,58,59,67,68] [5,13,69] (fun j=>j ≤ (sc7 p k).stops.length) (fun j=>[.c (I6 (ct + ql7 x p.bikes k + ii7 x (ta7 x (sc7 p k)) j)), .c (I6 ((ta7 x (sc7 p k)).getD j 0)), .c (I6 j)]) (fun _=>_) (fun j=>(sc7 p k).stops.length - j) (by kernel_rfl) ⟨0,Nat.zero_le _,by simp [ii7,gets,lk,ul7,ta7],rfl⟩ (fun k _=>⟨rfl,rfl,rfl,rfl⟩) ?_
   intro j hj
   have hwb:=oq7 gd (ta7 x (sc7 p k)) j
   have hng:j < (sc7 p k).stops.length → (ta7 x (sc7 p k)).getD (j + 1) 0 = 1 + x.sats.length + (sc7 p k).stops.getD j 0:=fun h=>jcb7 (1 + (sc7 p k).sat) (sc7 p k).stops (fun c=>1 + x.sats.length + c) 0 h
   have hnd:0 ≤ (ta7 x (sc7 p k)).getD j 0 ∧ (ta7 x (sc7 p k)).getD j 0 < (nodes x:Int):=by
    cases j with
    | zero=>show 0 ≤ 1 + (sc7 p k).sat ∧ 1 + (sc7 p k).sat < (nodes x:Int); omega
    | succ i =>
     have h3:=hco i hj
     unfold bc7 at h3
     have e:(ta7 x (sc7 p k)).getD (i + 1) 0 = 1 + x.sats.length + (sc7 p k).stops.getD i 0:=jcb7 (1 + (sc7 p k).sat) (sc7 p k).stops (fun c=>1 + x.sats.length + c) 0 hj
     rw [e]; omega
   have hse:j < (sc7 p k).stops.length → ii7 x (ta7 x (sc7 p k)) (j + 1) = ii7 x (ta7 x (sc7 p k)) j + zh7 x ((ta7 x (sc7 p k)).getD j 0) (1 + x.sats.length + (sc7 p k).stops.getD j 0):=fun h=>umb7 (1 + (sc7 p k).sat) (sc7 p k).stops (fun c=>1 + x.sats.length + c) 0 h
   have hen:j = (sc7 p k).stops.length → lcb7 x (ta7 x (sc7 p k)) = ii7 x (ta7 x (sc7 p k)) j + zh7 x ((ta7 x (sc7 p k)).getD j 0) (1 + (sc7 p k).sat):=fun e=>by subst e; exact rsb7 (1 + (sc7 p k).sat) (sc7 p k).stops (fun c=>1 + x.sats.length + c)
   have hca:=oj7 gd ((ta7 x (sc7 p k)).getD j 0) (1 + x.sats.length + (sc7 p k).stops.getD j 0)
   have hca0:=oj7 gd ((ta7 x (sc7 p k)).getD j 0) (1 + (sc7 p k).sat)
   generalize (ta7 x (sc7 p k)).getD j 0 = node at hnd hse hen hca hca0
   generalize ii7 x (ta7 x (sc7 p k)) j = way at hwb hse hen
   simp -implicitDefEqProofs only [go_sem, ↓reduceIte,reduceCtorEq,Nat.reduceAdd,Nat.reduceLT,Nat.reduceEqDiff,Nat.reduceMul,Nat.reduceLeDiff,Nat.reduceSub,oeb7,qab7,sab7]
   refine ⟨fun h2 => ?_,fun h2 => ?_⟩
   ·have hjl:j < (sc7 p k).stops.length:=by omega
    have h3:=hco j hjl
    have h4:=hse hjl
    have h5:=hng hjl
    refine ⟨by omega,hnd, ?_⟩
    refine rc7 (mjb7 x h3 gd) ⟨trivial,trivial,trivial⟩ rfl (fun r h=>by subst h; rfl) ?_
    rintro r rfl
    simp -implicitDefEqProofs only [go_sem, ↓reduceIte,reduceCtorEq,Nat.reduceAdd,Nat.reduceLT,Nat.reduceEqDiff,Nat.reduceMul,Nat.reduceLeDiff,Nat.reduceSub,oeb7,qab7,sab7]
    unfold bc7 at h3
    refine ⟨by omega,by omega, ?_⟩
    refine rc7 (mjb7 x (hco j hjl) gd) ⟨trivial,trivial,trivial⟩ rfl (fun r h=>by subst h; rfl) ?_
    rintro r rfl
    simp -implicitDefEqProofs only [go_sem, ↓reduceIte,reduceCtorEq,Nat.reduceAdd,Nat.reduceLT,Nat.reduceEqDiff,Nat.reduceMul,Nat.reduceLeDiff,Nat.reduceSub]
    refine ⟨by omega,j + 1,by omega, ?_,by omega⟩
    rw [h4,h5,Int.add_assoc]; rfl
   ·obtain rfl:j = (sc7 p k).stops.length:=by omega
    refine ⟨hnd,by omega,by omega,by omega,by omega,k + 1,by omega, ?_,by omega⟩
    rw [hsucc,hen rfl, ← Int.add_assoc, ← Int.add_assoc]; rfl
  ·obtain rfl:k = p.bikes.length:=by omega
   rfl
def edb7 (s:ts7):List AV:=if7 s.plan ++ (dd7 s.times ++ [I6 s.cost])
theorem jub7 {w:World} {F:Nat → Prop} {s:ts7} {cs:List Value} (h:ue7 F w (edb7 s) cs) (hp:dx7 s.plan) (ht:bu7 s.times) (hc:ua7 s.cost):cs7.rep w F s cs:=by
 obtain ⟨a,_,rfl,k1,b,_,rfl,k2,c,_,rfl,k3,d,_,rfl,k4,_,_,rfl,rfl,rfl⟩:=h
 exact ⟨a,b,c,d,rfl,hc,tob7 ⟨_,_,rfl,k1,_,_,rfl,k2,rfl⟩ hp,wtb7 ⟨_,_,rfl,k3,_,_,rfl,k4,rfl⟩ ht⟩
theorem ujb7:zi7 Try.prog 6 [] (fun r=>r = .c (.bool true)) :=
 en7 ⟨_,_,Try.func6,by kernel_rfl,rfl⟩ fun rho w vs hcv=>by
  obtain rfl:=hcv
  refine (rkb7 w).mono ?_
  rintro e w' ⟨rfl,hb⟩
  exact ⟨_,_,rfl,rfl,rfl,hb⟩
theorem wjb7 {y:ba7} {p:sa7} (h:YOk y) (hp:POk p):ua7 (hh7 y p):=by
 unfold hh7
 split
 ·rename_i hc
  have ok:=iab7 h hc
  have h1:=rt7 ok.good p.trucks p.trucks.length (Nat.le_refl _)
  have h2:=ft7 ok.good p.bikes p.bikes.length (Nat.le_refl _)
  have h3:=hp.small; have h4:=ok.tl; have h5:=ok.bl
  unfold yb7 at h3
  unfold qw7 ua7
  omega
 ·unfold ua7; omega
theorem keb7 {y:ba7} {p:sa7} (h:YOk y) (hp:POk p):dx7 (makeF y p).plan ∧ bu7 (makeF y p).times ∧ ua7 (makeF y p).cost:=by
 unfold makeF
 split
 ·rename_i hc
  have hpc:ia7 y p = 0:=by
   unfold na7 at hc
   by_cases e:ia7 y p = 0
   ·exact e
   ·rw [if_pos e] at hc; exact hc
  exact ⟨hp.wf,lzb7 (nob7 (iab7 h hpc)),wjb7 h hp⟩
 ·exact ⟨⟨fun t ht=>(by cases ht),fun b hb=>(by cases hb)⟩,⟨fun l hl=>(by cases hl),fun r hr=>(by cases hr)⟩,by unfold ua7; simp⟩
theorem ko7 {y:ba7} {s:ts7} (h:YOk y) (hp:POk s.plan) (ht:bu7 s.times) (hc:ua7 s.cost):zi7 Try.prog 13 [.agg (qf7 y), .agg (edb7 s)] (fun r=>r = .c (I6 (fr7 y s))) :=
 en7 ⟨_,_,Try.func13,by kernel_rfl,rfl⟩ fun rho w vs hcv=>by
  obtain ⟨_,_,rfl,⟨cs,rfl,h1⟩,_,_,rfl,⟨ds,rfl,h2⟩,rfl⟩:=hcv
  refine (po7 (xlb7 h1 h.k) (jub7 h2 hp.wf ht hc) (fun _=>h.nc.2) hp.small).mono ?_
  rintro e w' ⟨rfl,hb⟩
  exact ⟨_,_,rfl,rfl,rfl,hb⟩
end Go.Proofs.Ytahffcepagopmaa.Ab
