/- The abstract machine: rows of which only kinds are kept, made, written, grown. -/
import Derived.Test.YtabadfkikdefeaaGreatQ3
set_option linter.all false
set_option maxRecDepth 100000
set_option maxHeartbeats 6400000
namespace Go.Proofs.YtabadfkikdefeaaGreat.Ab
open Go.RowKit
section
variable {P:Program} {ty:Ty} {E:Env} {nt:Nat} {M M':Mp} {H H':List Root} {σ:AS} {a:Act} {w w':World} {t e:TypeId} {ck:List CK}
theorem ip7.one {q:CK}{v:Value}(h:ip7 M w q v):v.oneCell'=true:=by
 cases q with
 | i k=>obtain⟨n,rfl,-⟩:=h;rfl
 | s t ck b=>obtain⟨n,-,a,c,rfl,-⟩:=h;rfl
theorem WSl.nil (t:TypeId) (ck:List CK):WSl M w t ck 0 (.slice none 0 0):=⟨none,0,rfl,Nat.le_refl _,Nat.zero_le _,fun _=>rfl,fun _ e=>by cases e⟩
theorem pk7:∀{ck:List CK}{l:List AV}{vs:List Value},ckE ck l→mb7 M H w l vs→ck.length=l.length∧∀(j:Nat) (q:CK),ck[j]? = some q→∃v,vs[j]? = some v∧ip7 M w q v
 | [],[],_,_,_=>⟨rfl,fun j q h=>by simp at h⟩
 | .i k::ck,.int k' n::l,_,⟨⟨e1,e2⟩,h⟩,⟨v,r,e,c1,c2⟩=>by
  subst e e1
  obtain⟨h1,h2⟩:=pk7 h c2
  refine⟨by simp[h1],fun j q hq=>?_⟩
  cases j with
  | zero=>cases hq;exact⟨v,rfl,n,c1,e2⟩
  | succ j=>exact h2 j q (by simpa using hq)
 | .s t c b::ck,.ws t' c' n::l,_,⟨⟨e1,e2,e3⟩,h⟩,⟨v,r,e,c1,c2⟩=>by
  subst e e1 e2
  obtain⟨h1,h2⟩:=pk7 h c2
  refine⟨by simp[h1],fun j q hq=>?_⟩
  cases j with
  | zero=>cases hq;exact⟨v,rfl,n,e3,c1⟩
  | succ j=>exact h2 j q (by simpa using hq)
 | .s t c b::ck,.wu t' c' b'::l,_,⟨⟨e1,e2,e3⟩,h⟩,⟨v,r,e,c1,c2⟩=>by
  subst e e1 e2
  obtain⟨h1,h2⟩:=pk7 h c2
  refine⟨by simp[h1],fun j q hq=>?_⟩
  cases j with
  | zero=>cases hq;obtain⟨n,g1,g2⟩:=c1;exact⟨v,rfl,n,Nat.le_trans g1 e3,g2⟩
  | succ j=>exact h2 j q (by simpa using hq)
 | .s t c b::ck,.nils::l,_,h,⟨v,r,e,c1,c2⟩=>by
  subst e
  obtain⟨h1,h2⟩:=pk7 (ck:=ck) h c2
  refine⟨by simp[h1],fun j q hq=>?_⟩
  cases j with
  | zero=>cases hq;have c1:v = .slice none 0 0:=c1;subst c1;exact⟨_,rfl,0,Nat.zero_le _,WSl.nil _ _⟩
  | succ j=>exact h2 j q (by simpa using hq)
theorem qcb7 (k:IntKind):inK k 0:=by cases k <;> simp[inK]
theorem mqb7:∀{ck:List CK}{l:List AV},zW ck l→ckE ck l
 | [],[],_=>trivial
 | .i k::ck,.int k' n::l,⟨⟨e1,e2⟩,h⟩=>⟨⟨e1,by rw[e2];exact qcb7 k⟩,mqb7 h⟩
 | .s t c b::ck,.nils::l,h=>mqb7 (ck:=ck) h
theorem Rel.weak (h:Rel E M H w) {tau':Nat→Option (TypeId×List CK)}(hos:w'.os=w.os) (htp:w'.tape=w.tape) (hou:w'.output=w.output) (hsz:w.heap.size≤w'.heap.size) (hbl:∀b,b<w.heap.size→M.tau b=none→w'.heap[b]? = w.heap[b]?)
  (hnew:∀b q,tau' b=some q→M.tau b=some q∨w.heap.size≤b) (hk:fg7 M w ⟨M.phi,M.off,M.rho,tau'⟩ w')
  (hc:∀b t ck,tau' b=some (t,ck)→∃cur,w'.heap[b]? = some (.cells cur t (0,0))∧0<ck.length∧(∃n,n*ck.length=cur.size)∧∀k,k<cur.size→∃v,cur[k]? = some v∧∀q,ck[k % ck.length]? = some q→ip7 M w q v) :
  Rel E ⟨M.phi,M.off,M.rho,tau'⟩ H w'∧Kp M H w ⟨M.phi,M.off,M.rho,tau'⟩ H w':=by
 have hrho:∀b,M.rho b→w'.heap[b]? = w.heap[b]? := fun b hb=>hbl b (h.rlt b hb) (by
  cases hq:M.tau b with
  | none=>rfl
  | some q=>exact absurd hb (h.tau.new b q hq).2)
 have hphi:∀{id:Nat} {fz:Bool} {t:TypeId} {sz:Nat} {r:Row},aa7 H id = .live fz t sz r→w'.heap[M.phi id]? = w.heap[M.phi id]? := fun hr=>hbl _ (h.lt hr) (by
  cases hq:M.tau _ with
  | none=>rfl
  | some q=>exact absurd rfl (h.tau.row _ _ _ _ _ _ _ hq hr))
 have hkp:Kp M H w ⟨M.phi,M.off,M.rho,tau'⟩ H w':=by
  intro x v c
  cases x with
  | ptr=>exact c
  | h id st len =>
   refine⟨c.1,fun fz t sz r hrt=>⟨(c.2 _ _ _ _ hrt).1,fun hl=>?_⟩⟩
   obtain⟨cap,cur,ad,h1,h2,h3,h4,h5⟩:=(c.2 _ _ _ _ hrt).2 hl
   refine⟨cap,cur,ad,h1,h2,h3, ?_,h5⟩
   show w'.heap[M.phi id]? = _
   rw[hphi hrt];exact h4
  | ws=>exact WSl.keep hk c
  | wu=>obtain⟨n,hb,c⟩:=c;exact⟨n,hb,WSl.keep hk c⟩
  | wp=>exact WPt.keep hk c
  | junk=>trivial
  | _=>exact lb7.keep hrho (fun _ h=>h) c
 refine⟨⟨⟨hos.trans h.bel.os,htp.trans h.bel.tape,hou.trans h.bel.output,Nat.le_trans h.bel.size hsz,fun k hk' hx=>?_⟩,h.low,fun id fz t sz r hr=>(h.row id fz t sz r hr).keep hkp hrho (fun _ h=>h) (hphi hr),h.froz,h.thaw,h.inj,fun b hb=>Nat.lt_of_lt_of_le (h.rlt b hb) hsz,h.src, ?_⟩,hkp⟩
 ·refine (hbl k (Nat.lt_of_lt_of_le hk' h.bel.size) ?_).trans (h.bel.block k hk' hx)
  cases hq:M.tau k with
  | none=>rfl
  | some q=>have:=(h.tau.new k q hq).1;omega
 ·refine⟨fun b q hq=>?_,fun b q id fz ty sz r hq hr=>?_,fun b t ck hq=>?_⟩
  ·rcases hnew b q hq with hq | hb
   ·exact h.tau.new b q hq
   ·exact⟨Nat.le_trans h.bel.size hb,fun hr=>by have:=h.rlt b hr;omega⟩
  ·rcases hnew b q hq with hq | hb
   ·exact h.tau.row _ _ _ _ _ _ _ hq hr
   ·have:=h.lt hr;show M.phi id≠b;omega
  ·obtain⟨cur,c1,c2,c3,c4⟩:=hc b t ck hq
   refine⟨cur,c1,c2,c3,fun k hk'=>?_⟩
   obtain⟨v,g1,g2⟩:=c4 k hk'
   exact⟨v,g1,fun q hq=>(g2 q hq).keep hk⟩
theorem qo7 (h:Rel E M H w) (hg:w.grownBy w' none) {cur:Array Value}{cap:Nat}(hb:w'.heap[w.heap.size]? = some (.cells cur t (0,0))) (h0:0<ck.length) (hcs:cap*ck.length=cur.size) (hcm:cap≤maxLen)
  (hcell:∀k,k<cur.size→∃v,cur[k]? = some v∧∀q,ck[k % ck.length]? = some q→ip7 M w q v) :
  ∃M',Rel E M' H w'∧Kp M H w M' H w'∧∀n,n≤cap→WSl M' w' t ck n (.slice (some ⟨w.heap.size,0,none⟩) n cap):=by
 have ht:∀b q,M.tau b=some q→b≠w.heap.size:=fun b q hq e=>by have:=h.tau.lt hq;omega
 obtain⟨r1,r2⟩:=h.weak (tau':=fun b=>if b=w.heap.size then some (t,ck) else M.tau b) hg.os hg.tape hg.output hg.size (fun b hb _=>hg.block b hb (by simp)) (fun b q hq=>by
   by_cases e:b=w.heap.size
   ·exact .inr (by omega)
   ·simp only[if_neg e]at hq;exact .inl hq)
  ⟨fun b q hq=>by simp only[if_neg (ht b q hq)];exact hq,fun b t ck cur hq hc=>⟨cur,by rw[hg.block b (h.tau.lt hq) (by simp)];exact hc,rfl⟩⟩
  (fun b t2 ck2 hq=>by
   by_cases e:b=w.heap.size
   ·simp only[if_pos e,Option.some.injEq,Prod.mk.injEq]at hq
    obtain⟨rfl,rfl⟩:=hq
    rw[e]
    exact⟨cur,hb,h0,⟨cap,hcs⟩,hcell⟩
   ·simp only[if_neg e]at hq
    obtain⟨c,c1,c2,c3,c4⟩:=h.tau.cells b t2 ck2 hq
    exact⟨c,by rw[hg.block b (h.tau.lt hq) (by simp)];exact c1,c2,c3,c4⟩)
 exact⟨_,r1,r2,fun n hn=>⟨_,_,rfl,hn,hcm,fun e=>(by cases e),fun ad e=>by cases e;exact⟨_,cur,rfl,by simp,hb,hcs⟩⟩⟩
theorem iu7 (h:Rel E M H w) {g:Nat}{cur cur':Array Value}(hq:M.tau g=some (t,ck)) (hc:w.heap[g]? = some (.cells cur t (0,0))) (hg:w.grownBy w' (some g)) (hc':w'.heap[g]? = some (.cells cur' t (0,0))) (hs:cur'.size=cur.size)
  (hcell:∀k,k<cur.size→∃v,cur'[k]? = some v∧∀q,ck[k % ck.length]? = some q→ip7 M w q v):Rel E M H w'∧Kp M H w M H w':=by
 refine h.weak (tau':=M.tau) hg.os hg.tape hg.output hg.size (fun b hb hn=>hg.block b hb (fun e=>by cases e;rw[hq]at hn;cases hn)) (fun b q hq=>.inl hq) ⟨fun b q hq=>hq,fun b t2 ck2 cur2 hq2 hc2=>?_⟩ fun b t2 ck2 hq2=>?_
 ·by_cases e:b=g
  ·subst e;rw[hq]at hq2;cases hq2;rw[hc]at hc2;cases hc2;exact⟨cur',hc',hs⟩
  ·exact⟨cur2,by rw[hg.block b (h.tau.lt hq2) (fun e2=>e (by cases e2;rfl))];exact hc2,rfl⟩
 ·obtain⟨c,c1,c2,c3,c4⟩:=h.tau.cells b t2 ck2 hq2
  by_cases e:b=g
  ·subst e;rw[hq]at hq2;cases hq2;rw[hc]at c1;cases c1
   exact⟨cur',hc',c2,(by obtain⟨n,hn⟩:=c3;exact⟨n,by omega⟩),fun k hk=>hcell k (by omega)⟩
  ·exact⟨c,by rw[hg.block b (h.tau.lt hq2) (fun e2=>e (by cases e2;rfl))];exact c1,c2,c3,c4⟩
theorem cx7 (hT:qb7 P ty) (h:Rel E M H w) (t e rt:TypeId) (hk:(ty t).k = .sl e) (hl:ck.length=(ty e).sz) (h0:0<(ty e).sz) (hb:(ty e).bytes≤128) (hz:zW ck (ty e).zero) {n m:Nat}{s x:Value}(hs:WSl M w e ck n s) (hx:WSl M w e ck m x) (hm:0<m) (hmax:n+m≤1099511627776) :
  ∃M' w' v',(Builtin.append_ #[t,t] rt #[s,x]).run P w = .ok v' w'∧Rel E M' H w'∧Kp M H w M' H w'∧WSl M' w' e ck (n+m) v':=by
 obtain⟨hu,hke⟩:P.underlying t=some (.slice e)∧_:=na7 hT hk
 obtain⟨i,z,hi,hzz,hsz,hby,hzs,hzl,hzc⟩:=ic7 (M:=M) (σ:=⟨[],H⟩) (w:=w) (P:=P) hT (t:=e) hke
 have hml:n+m≤maxLen:=by unfold maxLen;omega
 have hbb:(n+m)*(ty e).bytes≤140737488355328:=by have:=Nat.mul_le_mul hmax hb;omega
 obtain⟨ax,cx,rfl,x1,x2,x3,x4⟩:=hx
 cases ax with
 | none=>have:=x3 rfl;omega
 | some ad =>
 obtain⟨bx,curx,rfl,y1,y2,y3⟩:=x4 _ rfl
 obtain⟨curx',z1,z2,z3,z4⟩:=h.tau.cells bx e ck y1
 rw[y2]at z1
 cases z1
 obtain⟨news,hnews⟩:∃l,l=curx.toList.take (m*(ty e).sz):=⟨_,rfl⟩
 have hmc:m*(ty e).sz≤curx.size:=by rw[← y3,hl];exact Nat.mul_le_mul_right _ x1
 have hnl:news.length=m*(ty e).sz:=by rw[hnews];simp;omega
 have hng:∀j,j<m*(ty e).sz→news[j]? = curx[j]? := fun j hj=>by rw[hnews,List.getElem?_take_of_lt hj];simp
 have hnk:∀j,j<m*(ty e).sz→∃u,news[j]? = some u∧∀q,ck[j % ck.length]? = some q→ip7 M w q u:=fun j hj=>by
  obtain⟨u,u1,u2⟩:=z4 j (by omega)
  exact⟨u,by rw[hng j hj];exact u1,u2⟩
 have hncell:∀j u,news[j]? = some u→w.cell? ((⟨bx,0,none⟩:Addr).add j)=some u:=fun j u hj=>by
  have hjl:j<m*(ty e).sz:=by rw[← hnl];exact (List.getElem?_eq_some_iff.1 hj).1
  rw[hng j hjl]at hj
  rw[addr_add,Nat.zero_add]
  simp[World.cell?,y2,hj]
 have hone:∀u∈news,u.oneCell'=true:=fun u hu=>by
  obtain⟨j,hj,rfl⟩:=List.getElem_of_mem hu
  obtain⟨u,u1,u2⟩:=hnk j (by omega)
  rw[List.getElem?_eq_getElem hj]at u1
  cases u1
  exact (u2 _ (List.getElem?_eq_getElem (Nat.mod_lt j z2))).one
 have hzk:∀c k,k<c*(ty e).sz→∃v,(Builtin.zeroCells z.cells c)[k]? = some v∧∀q,ck[k % ck.length]? = some q→ip7 M w q v:=fun c k hkc=>by
  have hpos:k % (ty e).sz<z.cells.size:=by rw[hzs];exact Nat.mod_lt _ h0
  refine⟨z.cells[k % (ty e).sz],by simp[Builtin.zeroCells,hzs,hkc];exact getElem!_pos z.cells _ hpos,fun q hq=>?_⟩
  rw[hl]at hq
  obtain⟨v,v1,v2⟩:=(pk7 (mqb7 hz) hzc).2 _ q hq
  simp only[Array.getElem?_toList,Array.getElem?_eq_getElem hpos,Option.some.injEq]at v1
  subst v1
  exact v2
 have key:∀(olds:List Value) (p c:Nat),olds.length=p*(ty e).sz→(∀j,j<p*(ty e).sz→∃u,olds[j]? = some u∧∀q,ck[j % ck.length]? = some q→ip7 M w q u) →
   (olds.toArray++news.toArray++Builtin.zeroCells z.cells c).size=(p+m+c)*(ty e).sz∧∀k,k<(olds.toArray++news.toArray++Builtin.zeroCells z.cells c).size→∃v,(olds.toArray++news.toArray++Builtin.zeroCells z.cells c)[k]? = some v∧∀q,ck[k % ck.length]? = some q→ip7 M w q v:=by
  intro olds p c ho hok
  have hsize:(olds.toArray++news.toArray++Builtin.zeroCells z.cells c).size=(p+m+c)*(ty e).sz:=by
   simp only[Array.size_append,List.size_toArray,size_zeroCells,hzs,ho,hnl,Nat.add_mul]
  refine⟨hsize,fun k hk'=>?_⟩
  rw[hsize,Nat.add_mul,Nat.add_mul]at hk'
  by_cases k1:k<p*(ty e).sz
  ·obtain⟨u,u1,u2⟩:=hok k k1
   refine⟨u, ?_,u2⟩
   rw[Array.getElem?_append_left (by simp[ho,hnl];omega),Array.getElem?_append_left (by simp[ho];omega)]
   simpa using u1
  ·by_cases k2:k<p*(ty e).sz+m*(ty e).sz
   ·obtain⟨u,u1,u2⟩:=hnk (k-p*(ty e).sz) (by omega)
    refine⟨u, ?_,fun q hq=>u2 q (by
     rw[← hq,hl]
     congr 1
     conv=>rhs;rw[show k=(k-p*(ty e).sz)+p*(ty e).sz by omega,Nat.add_mul_mod_self_right])⟩
    rw[Array.getElem?_append_left (by simp[ho,hnl];omega),Array.getElem?_append_right (by simp[ho];omega)]
    simpa[ho]using u1
   ·obtain⟨u,u1,u2⟩:=hzk c (k-(p+m)*(ty e).sz) (by rw[Nat.add_mul];omega)
    refine⟨u, ?_,fun q hq=>u2 q (by
     rw[← hq,hl]
     congr 1
     conv=>rhs;rw[show k=(k-(p+m)*(ty e).sz)+(p+m)*(ty e).sz by rw[Nat.add_mul];omega,Nat.add_mul_mod_self_right])⟩
    rw[Array.getElem?_append_right (by simp[ho,hnl];omega)]
    simpa[ho,hnl,Nat.add_mul]using u1
 have fresh:∀(c:Array Value),w.grownBy (w.drew.alloc (.cells c e)) none∧(w.drew.alloc (.cells c e)).heap[w.heap.size]? = some (.cells c e (0,0)):=fun c=>⟨⟨rfl,rfl,rfl,by simp,fun k hk _=>Below.heap_alloc w.drew _ _ hk⟩,pd7 w.drew _⟩
 obtain⟨as,cs,rfl,s1,s2,s3,s4⟩:=hs
 cases as with
 | none =>
  have hc0:=s3 rfl
  subst hc0
  obtain rfl:n=0:=by omega
  simp only[Nat.zero_add]at hml hbb hmax ⊢
  have hr:=run_append_nil (P:=P) w t rt e i z hu hi hzz ⟨bx,0,none⟩ m cx news (by rw[hsz];exact hnl) hncell hm (by unfold maxLen at hml;omega) (by rw[hby];omega)
  obtain⟨q1,q2⟩:=key [] 0 (grownCap w m 0 e-m) (by simp) (fun j hj=>by omega)
  have hge:=grownCap_ge w m 0 e
  have e0:([]:List Value).toArray = #[]:=rfl
  rw[e0]at q1 q2
  simp only[Array.empty_append,Nat.zero_add]at q1 q2
  obtain⟨f1,f2⟩:=fresh (news.toArray++Builtin.zeroCells z.cells (grownCap w m 0 e-m))
  obtain⟨M',r1,r2,r3⟩:=qo7 (cap:=grownCap w m 0 e) h f1 f2 z2 (by rw[q1,hl];congr 1;omega) (grownCap_le_maxLen w m 0 e hml) q2
  exact⟨M',_,_,hr,r1,r2,r3 m hge⟩
 | some ad =>
  obtain⟨b,cur,rfl,g1,g2,g3⟩:=s4 _ rfl
  obtain⟨cur2,c1,c2,c3,c4⟩:=h.tau.cells b e ck g1
  rw[g2]at c1
  cases c1
  have hnc:n*(ty e).sz≤cur.size:=by rw[← g3,hl];exact Nat.mul_le_mul_right _ s1
  by_cases hroom:n+m≤cs
  ·have hfit:n*(ty e).sz+m*(ty e).sz≤cur.size:=by rw[← Nat.add_mul,← g3,hl];exact Nat.mul_le_mul_right _ hroom
   have hr:=run_append_room (P:=P) w t rt e i hu hi b n cs cur g2 ⟨bx,0,none⟩ m cx news (by rw[hsz];exact hnl) hncell hone hroom (by rw[hsz,hnl];exact hfit)
   rw[hsz]at hr
   obtain⟨arr,harr⟩:∃a,a=(cur.toList.take (n*(ty e).sz)++news++cur.toList.drop (n*(ty e).sz+news.length)).toArray:=⟨_,rfl⟩
   rw[← harr]at hr
   have hal:arr.size=cur.size:=by rw[harr];simp;omega
   obtain⟨r1,r2⟩:=iu7 h g1 g2 (w':=w.setRow b arr) ⟨rfl,rfl,rfl,by simp[World.setRow],fun k _ hk=>setRow_other w b k _ (fun e=>hk (by rw[e]))⟩ (setRow_heap w b cur _ e _ g2) hal fun k hk'=>by
    by_cases k1:k<n*(ty e).sz
    ·obtain⟨u,u1,u2⟩:=c4 k hk'
     refine⟨u, ?_,u2⟩
     rw[harr]
     simp only[List.getElem?_toArray,List.append_assoc]
     rw[List.getElem?_append_left (by simp;omega),List.getElem?_take_of_lt k1]
     simpa using u1
    ·by_cases k2:k<n*(ty e).sz+m*(ty e).sz
     ·obtain⟨u,u1,u2⟩:=hnk (k-n*(ty e).sz) (by omega)
      refine⟨u, ?_,fun q hq=>u2 q (by
       rw[← hq,hl]
       congr 1
       conv=>rhs;rw[show k=(k-n*(ty e).sz)+n*(ty e).sz by omega,Nat.add_mul_mod_self_right])⟩
      rw[harr]
      have htl:(cur.toList.take (n*(ty e).sz)).length=n*(ty e).sz:=by simp;omega
      simp only[List.getElem?_toArray,List.append_assoc]
      rw[List.getElem?_append_right (by omega),htl,List.getElem?_append_left (by omega)]
      exact u1
     ·obtain⟨u,u1,u2⟩:=c4 k hk'
      refine⟨u, ?_,u2⟩
      rw[harr]
      have htl:(cur.toList.take (n*(ty e).sz)++news).length=n*(ty e).sz+m*(ty e).sz:=by simp[hnl];omega
      simp only[List.getElem?_toArray]
      rw[List.getElem?_append_right (by omega),htl,List.getElem?_drop,hnl,show n*(ty e).sz+m*(ty e).sz+(k-(n*(ty e).sz+m*(ty e).sz))=k by omega]
      simpa using u1
   exact⟨M,_,_,hr,r1,r2,⟨_,_,rfl,hroom,s2,fun e=>(by cases e),fun ad e=>by cases e;exact⟨b,arr,rfl,g1,setRow_heap w b cur _ _ _ g2,by rw[hal];exact g3⟩⟩⟩
  ·obtain⟨olds,holds⟩:∃l,l=cur.toList.take (n*(ty e).sz):=⟨_,rfl⟩
   have hol:olds.length=n*(ty e).sz:=by rw[holds];simp;omega
   have hog:∀j,j<n*(ty e).sz→olds[j]? = cur[j]? := fun j hj=>by rw[holds,List.getElem?_take_of_lt hj];simp
   have hr:=run_append_grow (P:=P) w t rt e i z hu hi hzz ⟨b,0,none⟩ n cs olds (by rw[hsz];exact hol) (fun j u hj=>by
     have hjl:j<n*(ty e).sz:=by rw[← hol];exact (List.getElem?_eq_some_iff.1 hj).1
     rw[hog j hjl]at hj
     rw[addr_add,Nat.zero_add]
     simp[World.cell?,g2,hj]) ⟨bx,0,none⟩ m cx news (by rw[hsz];exact hnl) hncell (by omega) (by unfold maxLen at hml;omega) (growslice_fits (by omega) (by rw[hby];exact hbb))
   obtain⟨q1,q2⟩:=key olds n (grownCap w (n+m) cs e-(n+m)) hol (fun j hj=>by
    obtain⟨u,u1,u2⟩:=c4 j (by omega)
    exact⟨u,by rw[hog j hj];exact u1,u2⟩)
   have hge:=grownCap_ge w (n+m) cs e
   obtain⟨f1,f2⟩:=fresh (olds.toArray++news.toArray++Builtin.zeroCells z.cells (grownCap w (n+m) cs e-(n+m)))
   obtain⟨M',r1,r2,r3⟩:=qo7 (cap:=grownCap w (n+m) cs e) h f1 f2 z2 (by rw[q1,hl];congr 1;omega) (grownCap_le_maxLen w (n+m) cs e hml) q2
   exact⟨M',_,_,hr,r1,r2,r3 (n+m) hge⟩
theorem dr7:∀{ck:List CK}{l:List AV},ckE ck l→njL l=true
 | [],[],_=>rfl
 | .i k::ck,.int k' n::l,⟨_,h⟩=>by simp only[njL,AV.nj,Bool.true_and];exact dr7 h
 | .s t c b::ck,.ws t' c' n::l,⟨_,h⟩=>by simp only[njL,AV.nj,Bool.true_and];exact dr7 h
 | .s t c b::ck,.wu t' c' b'::l,⟨_,h⟩=>by simp only[njL,AV.nj,Bool.true_and];exact dr7 h
 | .s t c b::ck,.nils::l,h=>by simp only[njL,AV.nj,Bool.true_and];exact dr7 (ck:=ck) h
theorem mx7 (h:Rel E M H w) {l:List AV}{vs:Array Value}(e:TypeId) (hc:mb7 M H w l vs.toList) (hk:ckE ck l) (h0:0<ck.length) :
  ∃M',Rel E M' H (w.alloc (.cells vs e))∧Kp M H w M' H (w.alloc (.cells vs e))∧WSl M' (w.alloc (.cells vs e)) e ck 1 (.slice (some ⟨w.heap.size,0,none⟩) 1 1):=by
 obtain⟨h1,h2⟩:=pk7 hk hc
 have hl:=hc.len
 have hs:vs.size=ck.length:=by rw[h1];simpa using hl
 obtain⟨M',r1,r2,r3⟩:=qo7 (t:=e) (ck:=ck) (cap:=1) h (w':=w.alloc (.cells vs e)) ⟨rfl,rfl,rfl,by simp,fun k hk _=>Below.heap_alloc _ _ _ hk⟩ (pd7 w _) h0 (by omega) (by unfold maxLen;omega) fun k hk'=>by
  have hkl:k % ck.length=k:=Nat.mod_eq_of_lt (by omega)
  refine⟨vs[k],by simp[hk'],fun q hq=>?_⟩
  rw[hkl]at hq
  obtain⟨v,v1,v2⟩:=h2 k q hq
  simp only[Array.getElem?_toList,Array.getElem?_eq_getElem hk',Option.some.injEq]at v1
  subst v1
  exact v2
 exact⟨M',r1,r2,r3 1 (Nat.le_refl _)⟩
theorem hq7 (h:Rel E M H w) {o:Nat}{p:Value}(hp:WPt M w t ck o p) {cs:List AV}{vs:List Value}(hc:mb7 M H w cs vs) (hk:ckE ((ck.drop o).take cs.length) cs) (ho:o+cs.length≤ck.length) :
  ∃ad w',p = .pointer (some ad)∧(storeCells ad vs 0).run P w = .ok () w'∧Rel E M H w'∧Kp M H w M H w':=by
 obtain⟨h1,h2⟩:=pk7 hk hc
 have hl:=hc.len
 obtain⟨b,cur,i,rfl,e2,e3,e4⟩:=hp
 obtain⟨cur2,c1,c2,c3,c4⟩:=h.tau.cells b t ck e2
 rw[e3]at c1
 cases c1
 rw[Nat.add_mul,Nat.one_mul]at e4
 have hv:∀j,j<vs.length→∃v,vs[j]? = some v∧∀q,ck[o+j]? = some q→ip7 M w q v:=fun j hj=>by
  have hq:((ck.drop o).take cs.length)[j]? = some (ck[o+j]'(by omega)):=by
   rw[List.getElem?_take_of_lt (by omega),List.getElem?_drop,List.getElem?_eq_getElem (by omega)]
  obtain⟨v,v1,v2⟩:=h2 j _ hq
  exact⟨v,v1,fun q hq=>by rw[List.getElem?_eq_getElem (by omega)]at hq;cases hq;exact v2⟩
 have h1c:∀v∈vs,v.oneCell'=true:=fun v hm=>by
  obtain⟨j,hj,rfl⟩:=List.getElem_of_mem hm
  obtain⟨v,v1,v2⟩:=hv j hj
  rw[List.getElem?_eq_getElem hj]at v1
  cases v1
  exact (v2 _ (List.getElem?_eq_getElem (by omega))).one
 have hst:=run_storeCells_at P b (i*ck.length+o) t vs 0 cur w e3 (by omega) h1c
 simp only[Nat.add_zero]at hst
 obtain⟨arr,harr⟩:∃a,a=(cur.toList.take (i*ck.length+o)++vs++cur.toList.drop (i*ck.length+o+vs.length)).toArray:=⟨_,rfl⟩
 rw[← harr]at hst
 have hal:arr.size=cur.size:=by rw[harr];simp;omega
 obtain⟨r1,r2⟩:=iu7 h e2 e3 (w':=w.setRow b arr) ⟨rfl,rfl,rfl,by simp[World.setRow],fun k _ hk=>setRow_other w b k _ (fun e=>hk (by rw[e]))⟩ (setRow_heap w b cur _ t _ e3) hal fun k hk'=>by
  by_cases k1:k<i*ck.length+o
  ·obtain⟨u,u1,u2⟩:=c4 k hk'
   refine⟨u, ?_,u2⟩
   rw[harr]
   simp only[List.getElem?_toArray,List.append_assoc]
   rw[List.getElem?_append_left (by simp;omega),List.getElem?_take_of_lt k1]
   simpa using u1
  ·have htl:(cur.toList.take (i*ck.length+o)).length=i*ck.length+o:=by simp;omega
   by_cases k2:k<i*ck.length+o+vs.length
   ·obtain⟨u,u1,u2⟩:=hv (k-(i*ck.length+o)) (by omega)
    refine⟨u, ?_,fun q hq=>u2 q (by
     rw[← hq]
     congr 1
     rw[show k=(o+(k-(i*ck.length+o)))+i*ck.length by omega,Nat.add_mul_mod_self_right,Nat.mod_eq_of_lt (by omega)]
     omega)⟩
    rw[harr]
    simp only[List.getElem?_toArray,List.append_assoc]
    rw[List.getElem?_append_right (by omega),htl,List.getElem?_append_left (by omega)]
    exact u1
   ·obtain⟨u,u1,u2⟩:=c4 k hk'
    refine⟨u, ?_,u2⟩
    rw[harr]
    have htl2:(cur.toList.take (i*ck.length+o)++vs).length=i*ck.length+o+vs.length:=by simp;omega
    simp only[List.getElem?_toArray]
    rw[List.getElem?_append_right (by omega),htl2,List.getElem?_drop,show i*ck.length+o+vs.length+(k-(i*ck.length+o+vs.length))=k by omega]
    simpa using u1
 exact⟨_,_,rfl,hst,r1,r2⟩
end
end Go.Proofs.YtabadfkikdefeaaGreat.Ab
