/- Texts of the proof, joined: A4, A5. -/
import Derived.Maps.AppendAt
import Derived.Great.BuildSlice
import Derived.Laws.OwnMore
import Derived.Deep.AppendSrc
import Derived.Test.YtabadfkikdefeaaGreatQ2
set_option linter.all false
set_option maxRecDepth 100000
set_option maxHeartbeats 6400000
namespace Go.Proofs.YtabadfkikdefeaaGreat.Ab
open Go.RowKit
section
variable {P:Program} {ty:Ty} {E:Env} {M M':Mp} {H H':List Root} {w w':World}
theorem Kp.refl (M:Mp) (H:List Root) (w:World):Kp M H w M H w:=fun _ _ h=>h
theorem Kp.trans {M2:Mp}{H2:List Root}{w2:World}(h:Kp M H w M' H' w') (k:Kp M' H' w' M2 H2 w2):Kp M H w M2 H2 w2:=fun a v c=>k a v (h a v c)
theorem Kp.L (h:Kp M H w M' H' w'):∀{l:List AV}{vs:List Value},mb7 M H w l vs→mb7 M' H' w' l vs
 | [],_,c=>c
 | _::_,_,⟨v,r,e,c1,c2⟩=>⟨v,r,e,h _ _ c1,Kp.L h c2⟩
mutual
theorem Kp.R (h:Kp M H w M' H' w'):∀{x:RV}{v:Value},ha7 M H w x v→ha7 M' H' w' x v
 | .c _,_,c=>h _ _ c
 | .agg _,_,⟨vs,e,c⟩=>⟨vs,e,h.L c⟩
 | .fn _ _ _,_,⟨vs,e,c⟩=>⟨vs,e,h.L c⟩
 | .tup _,_,⟨vs,e,c⟩=>⟨vs,e,Kp.RL h c⟩
 | .ifc _ _,_,⟨u,e,c⟩=>⟨u,e,Kp.R h c⟩
theorem Kp.RL (h:Kp M H w M' H' w'):∀{x:List RV}{vs:List Value},ab7 M H w x vs→ab7 M' H' w' x vs
 | [],_,c=>c
 | _::_,_,⟨v,r,e,c1,c2⟩=>⟨v,r,e,Kp.R h c1,Kp.RL h c2⟩
end
theorem Kp.below (h:Rel E M H w) (hb:Below w.heap.size w w'):Kp M H w M H w':=by
 intro a v c
 have hr:∀b,M.rho b→w'.heap[b]? = w.heap[b]? := fun b hb'=>hb.block b (h.rlt b hb')
 cases a with
 | ptr=>exact c
 | h id st len =>
  refine⟨c.1,fun fz t sz r hrt=>⟨(c.2 _ _ _ _ hrt).1,fun hl=>?_⟩⟩
  obtain⟨cap,cur,ad,h1,h2,h3,h4,h5⟩:=(c.2 _ _ _ _ hrt).2 hl
  refine⟨cap,cur,ad,h1,h2,h3, ?_,h5⟩
  rw[hb.block _ (Array.getElem?_eq_some_iff.1 h4).1];exact h4
 | ws=>exact WSl.keep (fg7.of rfl fun b q hq=>hb.block b (h.tau.lt hq)) c
 | wu=>obtain⟨n,hb',c⟩:=c;exact⟨n,hb',WSl.keep (fg7.of rfl fun b q hq=>hb.block b (h.tau.lt hq)) c⟩
 | wp=>exact WPt.keep (fg7.of rfl fun b q hq=>hb.block b (h.tau.lt hq)) c
 | junk=>trivial
 | _=>exact lb7.keep hr (fun _ h=>h) c
theorem iy7.keep {b f:Nat}{t:TypeId}{sz:Nat}{r:Row}(h:iy7 M H w b f t sz r) (hk:Kp M H w M' H' w') (hr:∀b,M.rho b→w'.heap[b]? = w.heap[b]?) (hrr:∀b,M.rho b→M'.rho b) (hb:w'.heap[b]? = w.heap[b]?):iy7 M' H' w' b f t sz r:=by
 obtain⟨cur,h1,h2,h3,h4,h5,h6⟩:=h
 refine⟨cur,by rw[hb];exact h1,h2,h3,h4,h5,fun i hi o ho=>?_⟩
 obtain⟨v,k1,k2,k3⟩:=h6 i hi o ho
 refine⟨v,k1,k2, ?_⟩
 unfold vd7 at k3 ⊢
 split
 ·rename_i hbx;rw[if_pos hbx]at k3;exact hk _ _ k3
 ·rename_i hbx;rw[if_neg hbx]at k3;exact lb7.keep hr hrr k3
theorem Rel.lt (h:Rel E M H w) {id:Nat}{fz:Bool}{t:TypeId}{sz:Nat}{r:Row}(hr:aa7 H id = .live fz t sz r):M.phi id<w.heap.size:=by
 obtain⟨cur,h1,-⟩:=h.row _ _ _ _ _ hr
 exact (Array.getElem?_eq_some_iff.1 h1).1
theorem Bel.next (h:Bel E w) (hb:Below w.heap.size w w'):Bel E w':=⟨hb.os.trans h.os,hb.tape.trans h.tape,hb.output.trans h.output,Nat.le_trans h.size hb.size,fun k hk hx=>(hb.block k (Nat.lt_of_lt_of_le hk h.size)).trans (h.block k hk hx)⟩
theorem Bel.below (h:Bel E w) (hx:∀b,¬E.ex b):Below E.W0.heap.size E.W0 w:=⟨h.os,h.tape,h.output,h.size,fun k hk=>h.block k hk (hx k)⟩
theorem Bel.of (w:World) (rho:Nat→Prop):Bel (Env.of w rho) w:=⟨rfl,rfl,rfl,Nat.le_refl _,fun _ _ _=>rfl⟩
theorem Rel.belN {rho:Nat→Prop}{w0:World}(h:Rel (Env.of w0 rho) M H w):Below w0.heap.size w0 w:=h.bel.below fun _ h=>h
theorem Rel.lowN {rho:Nat→Prop}{w0:World}(h:Rel (Env.of w0 rho) M H w) (id:Nat) (fz:Bool) (t:TypeId) (sz:Nat) (r:Row) (hr:aa7 H id = .live fz t sz r):w0.heap.size≤M.phi id:=(h.low id fz t sz r hr).resolve_right fun h=>h
theorem Rel.below (h:Rel E M H w) (hb:Below w.heap.size w w'):Rel E M H w' :=
 ⟨h.bel.next hb,h.low,fun id fz t sz r hr=>(h.row id fz t sz r hr).keep (Kp.below h hb) (fun b hb'=>hb.block b (h.rlt b hb')) (fun _ h=>h) (hb.block _ (h.lt hr)),h.froz,h.thaw,h.inj,
  fun b hb'=>Nat.lt_of_lt_of_le (h.rlt b hb') hb.size,h.src,h.tau.keep rfl (fun b q hq=>hb.block b (h.tau.lt hq)) (fun b q hq=>(h.tau.new b q hq).2) h.tau.row⟩
theorem Rel.glob (h:Rel E M H w):uh7 M.rho w:=⟨E.exk.elim (fun hx=>h.src.2.1.below (h.bel.below hx)) (fun hg=>hg w),h.src.2.2⟩
structure Put (E:Env) (M:Mp) (H H':List Root) (w w':World) (row:Option Nat) (id g f:Nat) (t:TypeId) (sz:Nat) (r':Row):Prop where
 gr:w.grownBy w' row
 oth:∀j,j≠id→aa7 H' j=aa7 H j
 this:aa7 H' id = .live false t sz r'
 len:H.length≤H'.length
 fresh:aa7 H id = .dead→H.length≤id
 row:∀b,row=some b→b=M.phi id∧∃t s r,aa7 H id = .live false t s r
 new:(g=M.phi id∧∃t s r,aa7 H id = .live false t s r)∨w.heap.size≤g
 old:∀fz t2 s r,aa7 H id = .live fz t2 s r→r.len<r'.len∨(r.len=r'.len∧g=M.phi id∧f=M.off id∧t2=t∧s=sz∧∀cur,w.heap[g]? = some (.cells cur t (0,0))→∃cur',w'.heap[g]? = some (.cells cur' t (0,0))∧cur'.size=cur.size)
def Mp.upd (M:Mp) (id g f:Nat):Mp:=⟨fun j=>if j=id then g else M.phi j,fun j=>if j=id then f else M.off j,M.rho,M.tau⟩
section
variable {row:Option Nat} {id g f:Nat} {t:TypeId} {sz:Nat} {r':Row}
theorem Put.rho (p:Put E M H H' w w' row id g f t sz r') (h:Rel E M H w) (b:Nat) (hb:M.rho b):w'.heap[b]? = w.heap[b]? := by
 refine p.gr.block b (h.rlt b hb) fun e=>?_
 obtain⟨rfl,t,s,r,hr⟩:=p.row b e.symm
 exact h.thaw _ _ _ _ hr hb
theorem Put.blk (p:Put E M H H' w w' row id g f t sz r') (h:Rel E M H w) {j:Nat}{fz:Bool}{t2:TypeId}{s2:Nat}{r2:Row}(hj:aa7 H j = .live fz t2 s2 r2) (hne:j≠id):w'.heap[M.phi j]? = w.heap[M.phi j]? := by
 refine p.gr.block _ (h.lt hj) fun e=>?_
 obtain⟨e2,t,s,r,hr⟩:=p.row _ e.symm
 cases fz with
 | false=>exact hne (h.inj _ _ _ _ _ _ _ _ hj hr e2)
 | true =>
  have:=h.froz _ _ _ _ hj
  rw[e2]at this
  exact h.thaw _ _ _ _ hr this
theorem Put.tau (p:Put E M H H' w w' row id g f t sz r') (h:Rel E M H w) (b:Nat) (q:TypeId×List CK) (hq:M.tau b=some q):w'.heap[b]? = w.heap[b]? := by
 refine p.gr.block b (h.tau.lt hq) fun e=>?_
 obtain⟨rfl,t,s,r,hr⟩:=p.row b e.symm
 exact h.tau.row _ _ _ _ _ _ _ hq hr rfl
theorem Put.kp (p:Put E M H H' w w' row id g f t sz r') (h:Rel E M H w):Kp M H w (M.upd id g f) H' w':=by
 intro a v c
 cases a with
 | ptr id2 n i o =>
  refine⟨⟨Nat.lt_of_lt_of_le c.1.1 p.len,c.1.2⟩,fun fz t2 s2 r2 hr=>?_⟩
  by_cases e:id2=id
  ·subst e
   rw[p.this]at hr
   cases hr
   cases ho:aa7 H id2 with
   | dead=>have:=p.fresh ho;have:=c.1.1;omega
   | live fz t2 s r =>
    obtain⟨c1,c2⟩:=c.2 _ _ _ _ ho
    rcases p.old _ _ _ _ ho with h1 | ⟨h1,rfl,rfl,rfl,rfl,-⟩
    ·exact⟨by omega,fun hn=>by omega⟩
    ·exact⟨by omega,fun hn=>by rw[c2 (by omega)];simp[Mp.upd]⟩
  ·rw[p.oth _ e]at hr
   have:=c.2 _ _ _ _ hr
   simpa[Mp.upd,e]using this
 | h id2 st len =>
  refine⟨⟨Nat.lt_of_lt_of_le c.1.1 p.len,c.1.2⟩,fun fz t2 s2 r2 hr=>?_⟩
  by_cases e:id2=id
  ·subst e
   rw[p.this]at hr
   cases hr
   cases ho:aa7 H id2 with
   | dead=>have:=p.fresh ho;have:=c.1.1;omega
   | live fz t2 s r =>
    obtain⟨c1,c2⟩:=c.2 _ _ _ _ ho
    rcases p.old _ _ _ _ ho with h1 | ⟨h1,rfl,rfl,rfl,rfl,h2⟩
    ·exact⟨by omega,fun hn=>by omega⟩
    ·refine⟨by omega,fun hn=>?_⟩
     obtain⟨cap,cur,ad,k1,k2,k3,k4,k5,k8⟩:=c2 (by omega)
     obtain⟨cur',k6,k7⟩:=h2 cur k4
     exact⟨cap,cur',ad,k1,k2,k3,by simpa[Mp.upd]using k6,by simp only[Mp.upd,if_true];omega,by simpa[Mp.upd]using k8⟩
  ·rw[p.oth _ e]at hr
   obtain⟨c1,c2⟩:=c.2 _ _ _ _ hr
   refine⟨c1,fun hn=>?_⟩
   obtain⟨cap,cur,ad,k1,k2,k3,k4,k5⟩:=c2 hn
   exact⟨cap,cur,ad,k1,k2,k3,by simp only[Mp.upd,e,if_false];rw[p.blk h hr e];exact k4,by simpa only[Mp.upd,e,if_false]using k5⟩
 | ws=>exact WSl.keep (fg7.of rfl (p.tau h)) c
 | wu=>obtain⟨n,hb',c⟩:=c;exact⟨n,hb',WSl.keep (fg7.of rfl (p.tau h)) c⟩
 | wp=>exact WPt.keep (fg7.of rfl (p.tau h)) c
 | junk=>trivial
 | _=>exact lb7.keep (p.rho h) (fun _ h=>h) c
theorem Put.rel (p:Put E M H H' w w' row id g f t sz r') (h:Rel E M H w) (hr:iy7 (M.upd id g f) H' w' g f t sz r'):Rel E (M.upd id g f) H' w':=by
 have hW:E.W0.heap.size≤w.heap.size:=h.bel.size
 have hg:E.own g:=by
  rcases p.new with ⟨rfl,t,s,r,ho⟩ | h1
  ·exact h.low _ _ _ _ _ ho
  ·exact .inl (by omega)
 have up:∀{j:Nat},j≠id→(M.upd id g f).phi j=M.phi j:=fun hne=>by simp[Mp.upd,hne]
 have uid:(M.upd id g f).phi id=g:=by simp[Mp.upd]
 have upo:∀{j:Nat},j≠id→(M.upd id g f).off j=M.off j:=fun hne=>by simp[Mp.upd,hne]
 have uido:(M.upd id g f).off id=f:=by simp[Mp.upd]
 refine⟨?_, ?_, ?_, ?_, ?_, ?_, ?_, ?_, ?_⟩
 ·exact⟨p.gr.os.trans h.bel.os,p.gr.tape.trans h.bel.tape,p.gr.output.trans h.bel.output,Nat.le_trans h.bel.size p.gr.size,fun k hk hx=>by
   rw[p.gr.block k (by omega) (fun e=>by
    obtain⟨e2,t,s,r,ho⟩:=p.row _ e.symm
    rcases h.low _ _ _ _ _ ho with h1 | h1
    ·omega
    ·exact hx (e2 ▸ h1))]
   exact h.bel.block k hk hx⟩
 ·intro j fz t2 s2 r2 hj
  by_cases e:j=id
  ·subst e;rw[uid];exact hg
  ·rw[up e];rw[p.oth _ e]at hj;exact h.low _ _ _ _ _ hj
 ·intro j fz t2 s2 r2 hj
  by_cases e:j=id
  ·subst e;rw[uid,uido];rw[p.this]at hj;cases hj;exact hr
  ·rw[up e,upo e];rw[p.oth _ e]at hj;exact (h.row _ _ _ _ _ hj).keep (p.kp h) (p.rho h) (fun _ h=>h) (p.blk h hj e)
 ·intro j t2 s2 r2 hj
  by_cases e:j=id
  ·subst e;rw[p.this]at hj;cases hj
  ·rw[up e];rw[p.oth _ e]at hj;exact h.froz _ _ _ _ hj
 ·intro j t2 s2 r2 hj
  by_cases e:j=id
  ·subst e;rw[uid]
   rcases p.new with ⟨rfl,t,s,r,ho⟩ | h1
   ·exact h.thaw _ _ _ _ ho
   ·exact fun hb=>by have:=h.rlt _ hb;omega
  ·rw[up e];rw[p.oth _ e]at hj;exact h.thaw _ _ _ _ hj
 ·intro i j t1 s1 r1 t2 s2 r2 hi hj he
  have key:∀{j:Nat} {t2:TypeId} {s2:Nat} {r2:Row},j≠id→aa7 H' j = .live false t2 s2 r2→g≠M.phi j:=fun hne hj e=>by
   rw[p.oth _ hne]at hj
   rcases p.new with ⟨rfl,t,s,r,ho⟩ | h1
   ·exact hne (h.inj _ _ _ _ _ _ _ _ ho hj e).symm
   ·have:=h.lt hj;omega
  by_cases ei:i=id
  ·by_cases ej:j=id
   ·rw[ei,ej]
   ·rw[ei,uid,up ej]at he
    exact absurd he (key ej hj)
  ·by_cases ej:j=id
   ·rw[ej,uid,up ei]at he
    exact absurd he.symm (key ei hi)
   ·rw[up ei,up ej]at he
    rw[p.oth _ ei]at hi
    rw[p.oth _ ej]at hj
    exact h.inj _ _ _ _ _ _ _ _ hi hj he
 ·exact fun b hb=>Nat.lt_of_lt_of_le (h.rlt b hb) p.gr.size
 ·exact h.src
 ·refine h.tau.keep rfl (p.tau h) (fun b q hq=>(h.tau.new b q hq).2) fun b q j fz t2 s2 r2 hq hj=>?_
  by_cases e:j=id
  ·subst e;rw[uid]
   rcases p.new with ⟨rfl,t,s,r,ho⟩ | h1
   ·exact h.tau.row _ _ _ _ _ _ _ hq ho
   ·have:=h.tau.lt hq;omega
  ·rw[up e];rw[p.oth _ e]at hj;exact h.tau.row _ _ _ _ _ _ _ hq hj
end
theorem pd7 (w:World) (o:Obj):(w.alloc o).heap[w.heap.size]? = some o:=by
 show (w.heap.push o)[w.heap.size]? = _
 simp
theorem Put.push (h:Rel E M H w) (hg:w.grownBy w' none) {t:TypeId}{sz:Nat}{r:Row}:Put E M H (H++[.live false t sz r]) w w' none H.length w.heap.size 0 t sz r :=
 ⟨hg,fun j hj=>by rw[ed7,if_neg hj],by rw[ed7,if_pos rfl],by simp,fun _=>Nat.le_refl _,fun _ e=>(by cases e),.inr (Nat.le_refl _),fun _ _ _ _ hr=>by rw[uf7 (Nat.le_refl _)]at hr;cases hr⟩
theorem zy7 {w w':World}{t:TypeId}{sz:Nat}{r:Row}:Con (M.upd H.length w.heap.size 0) (H++[.live false t sz r]) w' (.ptr H.length r.len 0 0) (.pointer (some ⟨w.heap.size,0,none⟩)):=by
 refine⟨⟨by simp,rfl⟩,fun fz t2 s2 r2 hr=>?_⟩
 rw[ed7,if_pos rfl]at hr
 cases hr
 exact⟨Nat.le_refl _,fun _=>by simp[Mp.upd]⟩
theorem dg7 {w':World}{t:TypeId}{sz n cap:Nat}{r:Row}{cur:Array Value}(hn:n=r.len) (h1:n≤cap) (h2:cap≤maxLen) (h3:w'.heap[w.heap.size]? = some (.cells cur t (0,0))) (h4:cap*sz=cur.size) :
  Con (M.upd H.length w.heap.size 0) (H++[.live false t sz r]) w' (.h H.length 0 n) (.slice (some ⟨w.heap.size,0,none⟩) n cap):=by
 refine⟨⟨by simp,rfl⟩,fun fz t2 s2 r2 hr=>?_⟩
 rw[ed7,if_pos rfl]at hr
 cases hr
 exact⟨by omega,fun _=>⟨cap,cur,_,rfl,h1,h2,by simpa[Mp.upd]using h3,by simpa[Mp.upd]using h4,fun _=>by simp[Mp.upd]⟩⟩
theorem zeb7 (h:Rel E M H w) {cs:List AV}{vs:Array Value}(t:TypeId) (hc:mb7 M H w cs vs.toList) (hn:∀v∈vs.toList,v.oneCell'=true) (h0:0<cs.length) :
  Rel E (M.upd H.length w.heap.size 0) (H++[.live false t cs.length (.box cs)]) (w.alloc (.cells vs t))∧Kp M H w (M.upd H.length w.heap.size 0) (H++[.live false t cs.length (.box cs)]) (w.alloc (.cells vs t)):=by
 have hg:w.grownBy (w.alloc (.cells vs t)) none:=⟨rfl,rfl,rfl,by simp,fun k hk _=>Below.heap_alloc _ _ _ hk⟩
 have p:=Put.push h hg (t:=t) (sz:=cs.length) (r:=.box cs)
 have hl:=hc.len
 refine⟨p.rel h ⟨vs,pd7 w _,h0,by simp only[Row.len];simp at hl;omega,⟨1,by simp at hl;omega⟩,fun _=>⟨rfl,by simpa using hl⟩,fun i hi o ho=>?_⟩,p.kp h⟩
 have hi:i=0:=by simp only[Row.len]at hi;omega
 subst hi
 have ho':o<vs.toList.length:=by rw[hl];exact ho
 refine⟨vs.toList[o],by simp,hn _ (List.getElem_mem ho'), ?_⟩
 show Con _ _ _ (nth cs o) _
 exact p.kp h _ _ (hc.get o _ (List.getElem?_eq_getElem ho'))
def Mp.fz (M:Mp) (id:Nat):Mp:=⟨M.phi,M.off,fun b=>M.rho b∨b=M.phi id,M.tau⟩
theorem re7 {fz:Bool}{t:TypeId}{sz:Nat}{r:Row}{id:Nat}(hr:aa7 H id = .live fz t sz r) (j:Nat):aa7 (ca7 H id (aa7 H id).mark) j=if j=id then .live true t sz r else aa7 H j:=by
 rw[jb7,hr]
 have:=yb7 hr
 by_cases e:j=id <;> simp[e,this,Root.mark]
theorem kc7 {id:Nat}{fz:Bool}{t:TypeId}{sz:Nat}{r:Row}(hr:aa7 H id = .live fz t sz r) {j:Nat}{fz2:Bool}{t2:TypeId}{s2:Nat}{r2:Row}(hj:aa7 (ca7 H id (aa7 H id).mark) j = .live fz2 t2 s2 r2) :
  ∃fz3,aa7 H j = .live fz3 t2 s2 r2∧(j≠id→fz3=fz2)∧(j=id→fz2=true):=by
 rw[re7 hr]at hj
 by_cases e:j=id
 ·rw[if_pos e]at hj
  cases hj
  exact⟨fz,by rw[e];exact hr,fun h=>absurd e h,fun _=>rfl⟩
 ·rw[if_neg e]at hj
  exact⟨fz2,hj,fun _=>rfl,fun h=>absurd h e⟩
theorem Kp.mark {id:Nat}{fz:Bool}{t:TypeId}{sz:Nat}{r:Row}(hr:aa7 H id = .live fz t sz r):Kp M H w (M.fz id) (ca7 H id (aa7 H id).mark) w:=by
 intro a v c
 cases a with
 | ptr id2 n i o=>exact⟨⟨by rw[da7];exact c.1.1,c.1.2⟩,fun fz2 t2 s2 r2 hj=>by obtain⟨fz3,h1,-⟩:=kc7 hr hj;exact c.2 _ _ _ _ h1⟩
 | h id2 st len=>exact⟨⟨by rw[da7];exact c.1.1,c.1.2⟩,fun fz2 t2 s2 r2 hj=>by obtain⟨fz3,h1,-⟩:=kc7 hr hj;exact c.2 _ _ _ _ h1⟩
 | ws=>exact c
 | wu=>exact c
 | wp=>exact c
 | junk=>trivial
 | _=>exact lb7.keep (fun _ _=>rfl) (fun _ h=>.inl h) c
theorem Rel.mark (h:Rel E M H w) {id:Nat}{fz:Bool}{t:TypeId}{sz:Nat}{r:Row}(hr:aa7 H id = .live fz t sz r):Rel E (M.fz id) (ca7 H id (aa7 H id).mark) w:=by
 refine⟨h.bel, ?_, ?_, ?_, ?_, ?_, ?_, ?_, ?_⟩
 ·intro j fz2 t2 s2 r2 hj
  obtain⟨_,h1,-⟩:=kc7 hr hj;exact h.low _ _ _ _ _ h1
 ·intro j fz2 t2 s2 r2 hj
  obtain⟨_,h1,-⟩:=kc7 hr hj
  exact (h.row _ _ _ _ _ h1).keep (Kp.mark hr) (fun _ _=>rfl) (fun _ h=>.inl h) rfl
 ·intro j t2 s2 r2 hj
  obtain⟨fz3,h1,h2,-⟩:=kc7 hr hj
  by_cases e:j=id
  ·exact .inr (by rw[e];rfl)
  ·obtain rfl:=h2 e;exact .inl (h.froz _ _ _ _ h1)
 ·intro j t2 s2 r2 hj
  obtain⟨fz3,h1,h2,h3⟩:=kc7 hr hj
  have e:j≠id:=fun e=>by have:=h3 e;cases this
  obtain rfl:=h2 e
  rintro (hb | hb)
  ·exact h.thaw _ _ _ _ h1 hb
  ·cases fz with
   | false=>exact e (h.inj _ _ _ _ _ _ _ _ h1 hr hb)
   | true=>exact h.thaw _ _ _ _ h1 (by have:=h.froz _ _ _ _ hr;have hb':M.phi j=M.phi id:=hb;rw[hb'];exact this)
 ·intro i j t1 s1 r1 t2 s2 r2 hi hj he
  obtain⟨f1,h1,k1,l1⟩:=kc7 hr hi
  obtain⟨f2,h2,k2,l2⟩:=kc7 hr hj
  have e1:i≠id:=fun e=>by have:=l1 e;cases this
  have e2:j≠id:=fun e=>by have:=l2 e;cases this
  obtain rfl:=k1 e1
  obtain rfl:=k2 e2
  exact h.inj _ _ _ _ _ _ _ _ h1 h2 he
 ·rintro b (hb | hb)
  ·exact h.rlt _ hb
  ·rw[hb];exact h.lt hr
 ·refine⟨?_,h.src.2.mono fun _=>.inl⟩
  rintro b (hb | hb)
  ·exact h.src.1 _ hb
  ·exact .inr (by rw[hb];exact h.low _ _ _ _ _ hr)
 ·refine h.tau.keep rfl (fun _ _ _=>rfl) (fun b q hq=>?_) fun b q j fz2 t2 s2 r2 hq hj=>?_
  ·rintro (hb | hb)
   ·exact (h.tau.new b q hq).2 hb
   ·exact h.tau.row _ _ _ _ _ _ _ hq hr hb.symm
  ·obtain⟨_,h1,-⟩:=kc7 hr hj
   exact h.tau.row _ _ _ _ _ _ _ hq h1
def hc7 (rho:Nat→Prop) (w:World):List AV→List Value→Prop
 | [],vs=>vs=[]
 | a::l,vs=>∃v r,vs=v::r∧lb7 rho w a v∧hc7 rho w l r
theorem lv7 {id:Nat}{fz:Bool}{t:TypeId}{sz:Nat}{r:Row}(hr:aa7 H id = .live fz t sz r) (a:AV):frz (ca7 H id (aa7 H id).mark) a=frz H a:=by
 cases a with
 | h id2 st len =>
  simp only[frz]
  rw[re7 hr]
  by_cases e:id2=id
  ·rw[if_pos e,e,hr]
  ·rw[if_neg e]
 | _=>rfl
theorem rp7 {id:Nat}{fz:Bool}{t:TypeId}{sz:Nat}{r:Row}(hr:aa7 H id = .live fz t sz r):∀l:List AV,hh7 (ca7 H id (aa7 H id).mark) l=hh7 H l
 | []=>rfl
 | a::l=>by simp only[hh7,lv7 hr,rp7 hr l]
theorem tf7 {id:Nat}{fz:Bool}{t:TypeId}{sz:Nat}{r:Row}(hr:aa7 H id = .live fz t sz r):∀l:List AV,bb7 H l→bb7 (ca7 H id (aa7 H id).mark) l
 | [],_=>trivial
 | a::l,h=>by
  cases a with
  | h id2 st len =>
   refine⟨?_,tf7 hr l h.2⟩
   have:=h.1
   unfold an7 at this ⊢
   rw[re7 hr]
   by_cases e:id2=id
   ·rw[if_pos e];rw[e,hr]at this;exact this
   ·rw[if_neg e];exact this
  | ptr=>exact h.elim
  | junk=>exact h.elim
  | ws=>exact h.elim
  | wu=>exact h.elim
  | wp=>exact h.elim
  | _=>exact tf7 hr l h
theorem lb7.frzH (h:Rel E M H w) {id st len:Nat}{v:Value}(hv:an7 H id st len) (c:Con M H w (.h id st len) v):lb7 (M.fz id).rho w (frz H (.h id st len)) v:=by
 unfold an7 at hv
 split at hv
 ·rename_i fz t sz r hr
  obtain⟨cap,cur,ad,rfl,h2,h3,h4,h5,h6⟩:=(c.2 _ _ _ _ hr).2 hv.1
  obtain⟨cur2,k1,k2,k3,k4,k5,k6⟩:=h.row _ _ _ _ _ hr
  simp only[frz,hr]
  refine⟨_,M.phi id,M.off id+st*sz,cap,rfl,h2,h3,fun _=>⟨congrArg some (h6 (by omega)),.inr rfl⟩,fun i hi j hj=>?_⟩
  obtain⟨u,l1,l2,l3⟩:=k6 (st+i) (by omega) j hj
  refine⟨u, ?_, ?_⟩
  ·simp only[World.cell?,k1,Option.isSome_none,Bool.false_eq_true,if_false]
   rw[← l1,Nat.add_mul,← Nat.add_assoc (M.off id)]
  ·unfold vd7 at l3
   rw[hv.2,if_neg (by simp)]at l3
   exact l3.keep (fun _ _=>rfl) (fun _ h=>.inl h)
 ·exact hv.elim
theorem mh7:∀(l:List AV) {M:Mp}{H:List Root},Rel E M H w→bb7 H l→∃M',(M'.phi=M.phi∧M'.off=M.off)∧(∀b,M.rho b→M'.rho b)∧Rel E M' (frzH H l) w∧Kp M H w M' (frzH H l) w∧∀vs,mb7 M H w l vs→hc7 M'.rho w (hh7 H l) vs
 | [],M,H,h,_=>⟨M,⟨rfl,rfl⟩,fun _ h=>h,h,Kp.refl _ _ _,fun vs hv=>hv⟩
 | a::l,M,H,h,ho=>by
  have plain:∀(_:a.fr=true) (_:frzH H (a::l)=frzH H l) (_:frz H a=a) (_:bb7 H l),∃M',(M'.phi=M.phi∧M'.off=M.off)∧(∀b,M.rho b→M'.rho b)∧Rel E M' (frzH H (a::l)) w∧Kp M H w M' (frzH H (a::l)) w∧∀vs,mb7 M H w (a::l) vs→hc7 M'.rho w (hh7 H (a::l)) vs:=fun h1 h2 h3 h4=>by
   obtain⟨M',k1,k2,k3,k4,k5⟩:=mh7 l h h4
   refine⟨M',k1,k2,by rw[h2];exact k3,by rw[h2];exact k4, ?_⟩
   rintro vs ⟨v,r,rfl,c1,c2⟩
   exact⟨v,r,rfl,by rw[h3];exact (Con.to0 h1 c1).keep (fun _ _=>rfl) k2,k5 r c2⟩
  cases a with
  | h id st len =>
   have hv:=ho.1
   unfold an7 at hv
   split at hv
   ·rename_i fz t sz r hr
    obtain⟨M',k1,k2,k3,k4,k5⟩:=mh7 l (h.mark hr) (tf7 hr l ho.2)
    refine⟨M',k1,fun b hb=>k2 b (.inl hb),k3,(Kp.mark hr).trans k4, ?_⟩
    rintro vs ⟨v,r,rfl,c1,c2⟩
    refine⟨v,r,rfl,(lb7.frzH h ho.1 c1).keep (fun _ _=>rfl) k2, ?_⟩
    have:=k5 r ((Kp.mark hr).L c2)
    rwa [rp7 hr]at this
   ·exact hv.elim
  | ptr=>exact ho.elim
  | junk=>exact ho.elim
  | ws=>exact ho.elim
  | wu=>exact ho.elim
  | wp=>exact ho.elim
  | int=>exact plain rfl rfl rfl ho
  | bool=>exact plain rfl rfl rfl ho
  | flt=>exact plain rfl rfl rfl ho
  | str=>exact plain rfl rfl rfl ho
  | nilp=>exact plain rfl rfl rfl ho
  | nils=>exact plain rfl rfl rfl ho
  | sl=>exact plain rfl rfl rfl ho
  | rp=>exact plain rfl rfl rfl ho
theorem dd7:∀(l:List AV) (H:List Root),(frzH H l).length=H.length
 | [],_=>rfl
 | a::l,H=>by cases a <;> simp only[frzH] <;> first | (rw[dd7 l,da7]) | exact dd7 l H
theorem hc7.get {rho:Nat→Prop}:∀{l:List AV}{vs:List Value},hc7 rho w l vs→∀i v,vs[i]? = some v→lb7 rho w (nth l i) v
 | [],_,h,i,v,hv=>by cases h;simp at hv
 | a::l,_,⟨v,r,h,h1,h2⟩,0,u,hu=>by subst h;cases hu;exact h1
 | a::l,_,⟨v,r,h,h1,h2⟩,i+1,u,hu=>by subst h;exact hc7.get h2 i u (by simpa using hu)
theorem hc7.len {rho:Nat→Prop}:∀{l:List AV}{vs:List Value},hc7 rho w l vs→vs.length=l.length
 | [],_,h=>by cases h;rfl
 | a::l,_,⟨v,r,h,_,h2⟩=>by subst h;simp[hc7.len h2]
theorem aj7:∀(l:List AV),(hh7 H l).length=l.length
 | []=>rfl
 | a::l=>by simp[hh7,aj7 l]
theorem ss7:∀{l:List AV}{j:Nat},l.length≤j→nth l j = .junk
 | [],_,_=>rfl
 | _::l,j+1,h=>ss7 (l:=l) (by simpa using h)
theorem xi7:∀(cs l:List AV) (o j:Nat),nth (pat l o cs) j=if j<l.length then (if o≤j∧j<o+cs.length then nth cs (j-o) else nth l j) else .junk
 | [],l,o,j=>by
  simp only[pat,List.length_nil,Nat.add_zero]
  rw[if_neg (show ¬(o≤j∧j<o) by omega)]
  split
  ·rfl
  ·exact ss7 (by omega)
 | a::cs,l,o,j=>by
  simp only[pat,List.length_cons]
  rw[xi7 cs _ _ _,zi7,po7]
  split
  ·by_cases h1:j=o
   ·subst h1
    rw[if_neg (by omega),if_pos (by omega),if_pos (by omega),Nat.sub_self];rfl
   ·by_cases h2:o+1≤j∧j<o+1+cs.length
    ·rw[if_pos h2,if_pos (by omega),show j-o=(j-(o+1))+1 by omega];rfl
    ·rw[if_neg h2,if_neg (fun h=>h1 h.1),if_neg (by omega)]
  ·rfl
theorem bj7 {α:Type}(l:List α) (i j:Nat) (x d:α):(l.set i x).getD j d=if j=i∧i<l.length then x else l.getD j d:=by
 simp only[List.getD_eq_getElem?_getD,List.getElem?_set]
 by_cases e:i=j
 ·subst e
  by_cases h:i<l.length <;> simp[h]
 ·rw[if_neg e,if_neg (fun h=>e h.1.symm)]
theorem khb7 {sz:Nat}{r:Row}{i o:Nat}{cs:List AV}(hp:(r.put sz i o cs).1) (hi:i<r.len) (ho:o+cs.length≤sz) :
  (r.put sz i o cs).2.len=r.len∧(r.put sz i o cs).2.isBox=r.isBox∧∀i' o',i'<r.len→o'<sz→(r.put sz i o cs).2.get i' o'=(if i'=i∧o≤o'∧o'<o+cs.length then nth cs (o'-o) else r.get i' o')∨(r.put sz i o cs).2.get i' o' = .junk:=by
 unfold Row.put at hp ⊢
 split at hp
 ·rename_i l
  refine⟨rfl,rfl,fun i' o' h1 h2=>?_⟩
  simp only[Row.len]at hi h1
  simp only[Row.get,xi7]
  split
  ·left
   by_cases e:o≤o'∧o'<o+cs.length
   ·rw[if_pos e,if_pos (by omega)]
   ·rw[if_neg e,if_neg (fun h=>e h.2)]
  ·exact .inr rfl
 ·rename_i k l k' n
  obtain⟨rfl,rfl⟩:=hp
  refine⟨by simp[Row.len],rfl,fun i' o' h1 h2=>.inl ?_⟩
  simp only[Row.len]at hi
  simp only[List.length_cons,List.length_nil]at ho
  simp only[Row.get,bj7,List.length_cons,List.length_nil]
  by_cases e:i'=i
  ·rw[if_pos ⟨e,hi⟩,if_pos (by omega),show o'-o=0 by omega];rfl
  ·rw[if_neg (fun h=>e h.1),if_neg (fun h=>e h.1)]
 ·rename_i l b
  simp only at hp
  subst hp
  refine⟨by simp[Row.len],rfl,fun i' o' h1 h2=>.inl ?_⟩
  simp only[Row.len]at hi
  simp only[List.length_cons,List.length_nil]at ho
  simp only[Row.get,bj7,List.length_cons,List.length_nil]
  by_cases e:i'=i
  ·rw[if_pos ⟨e,hi⟩,if_pos (by omega),show o'-o=0 by omega];rfl
  ·rw[if_neg (fun h=>e h.1),if_neg (fun h=>e h.1)]
 ·rename_i l
  refine⟨by simp[Row.len],rfl,fun i' o' h1 h2=>?_⟩
  simp only[Row.len]at hi
  simp only[Row.get,bj7]
  by_cases e:i'=i
  ·rw[if_pos ⟨e,hi⟩,xi7]
   split
   ·left
    by_cases e2:o≤o'∧o'<o+cs.length
    ·rw[if_pos e2,if_pos ⟨e,e2⟩]
    ·rw[if_neg e2,if_neg (fun h=>e2 h.2),e]
   ·exact .inr rfl
  ·rw[if_neg (fun h=>e h.1),if_neg (fun h=>e h.1)]
   exact .inl rfl
 ·rename_i l
  refine⟨by simp[Row.len],rfl,fun i' o' h1 h2=>?_⟩
  simp only[Row.len]at hi
  simp only[Row.get,bj7]
  by_cases e:i'=i
  ·rw[if_pos ⟨e,hi⟩,xi7]
   split
   ·left
    by_cases e2:o≤o'∧o'<o+cs.length
    ·rw[if_pos e2,if_pos ⟨e,e2⟩]
    ·rw[if_neg e2,if_neg (fun h=>e2 h.2),e]
   ·exact .inr rfl
  ·rw[if_neg (fun h=>e h.1),if_neg (fun h=>e h.1)]
   exact .inl rfl
 ·exact hp.elim
theorem iib7 {sz:Nat}{r:Row}{i o:Nat}{cs:List AV}:(r.put sz i o cs).2.one=r.one:=by
 unfold Row.put;split <;> rfl
theorem wd7 (cur:Array Value) (vs:List Value) (b j:Nat) (h:b+vs.length≤cur.size):(cur.toList.take b++vs++cur.toList.drop (b+vs.length)).toArray[j]? = if b≤j∧j<b+vs.length then vs[j-b]? else cur[j]? := by
 have h1:(cur.toList.take b).length=b:=by rw[List.length_take];simp;omega
 rw[List.getElem?_toArray]
 by_cases e1:j<b
 ·rw[List.append_assoc,List.getElem?_append_left (by omega),List.getElem?_take_of_lt e1,if_neg (by omega)];simp
 ·by_cases e2:j<b+vs.length
  ·rw[List.getElem?_append_left (by simp;omega),List.getElem?_append_right (by omega),h1,if_pos (by omega)]
  ·rw[List.getElem?_append_right (by simp;omega),List.getElem?_drop,if_neg (by omega)]
   simp only[List.length_append,h1,Array.getElem?_toList]
   congr 1;omega
theorem ub7 (cur:Array Value) (vs:List Value) (b:Nat) (h:b+vs.length≤cur.size):(cur.toList.take b++vs++cur.toList.drop (b+vs.length)).toArray.size=cur.size:=by
 simp;omega
def spl (cur:Array Value) (b:Nat) (vs:List Value):Array Value:=(cur.toList.take b++vs++cur.toList.drop (b+vs.length)).toArray
theorem kn7 (M:Mp) (id:Nat):M.upd id (M.phi id) (M.off id)=M:=by
 cases M
 simp only[Mp.upd,Mp.mk.injEq,and_true]
 exact⟨funext fun j=>by by_cases e:j=id <;> simp[e],funext fun j=>by by_cases e:j=id <;> simp[e]⟩
theorem ju7 (h:Rel E M H w) {id:Nat}{t:TypeId}{sz:Nat}{r:Row}(hr:aa7 H id = .live false t sz r) {i o:Nat}{cs:List AV}{vs:List Value}(hi:i<r.len) (ho:o+cs.length≤sz) (hone:∀v∈vs,v.oneCell'=true)
  (hl:vs.length=cs.length) (hcs:∀j v,vs[j]? = some v→vd7 M H w r.isBox (nth cs j) v) (hp:(r.put sz i o cs).1) :
  ∃w',Rel E M (ca7 H id (.live false t sz (r.put sz i o cs).2)) w'∧Kp M H w M (ca7 H id (.live false t sz (r.put sz i o cs).2)) w' ∧
   (storeCells ⟨M.phi id,M.off id+i*sz+o,none⟩ vs 0).run P w = .ok () w'∧(w.heap.size≤w'.heap.size∧∀b,b<w.heap.size→b≠M.phi id→w'.heap[b]? = w.heap[b]?):=by
 obtain⟨cur,h1,h2,h3,h4,h5,h6⟩:=h.row _ _ _ _ _ hr
 obtain⟨p1,p2,p3⟩:=khb7 hp hi ho
 have hfit:M.off id+i*sz+o+vs.length≤cur.size:=by
  have:(i+1)*sz≤r.len*sz:=Nat.mul_le_mul_right _ hi
  rw[Nat.add_mul]at this
  omega
 have hrun:=run_storeCells_at P (M.phi id) (M.off id+i*sz+o) t vs 0 cur w h1 (by omega) hone
 simp only[Nat.add_zero]at hrun
 have hg:w.grownBy (w.setRow (M.phi id) (spl cur (M.off id+i*sz+o) vs)) (some (M.phi id)):=⟨rfl,rfl,rfl,by simp[World.setRow],fun k _ hne=>setRow_other w _ _ _ (fun e=>hne (by rw[e]))⟩
 have hnew:(w.setRow (M.phi id) (spl cur (M.off id+i*sz+o) vs)).heap[M.phi id]? = some (.cells (spl cur (M.off id+i*sz+o) vs) t (0,0)):=setRow_heap w _ cur _ t _ h1
 have hid:=yb7 hr
 have p:Put E M H (ca7 H id (.live false t sz (r.put sz i o cs).2)) w (w.setRow (M.phi id) (spl cur (M.off id+i*sz+o) vs)) (some (M.phi id)) id (M.phi id) (M.off id) t sz (r.put sz i o cs).2 :=
  ⟨hg,fun j hj=>(by rw[jb7,if_neg (fun h=>hj h.1)]),(by rw[jb7,if_pos ⟨rfl,hid⟩]),(by rw[da7];exact Nat.le_refl _),fun e=>(by rw[hr]at e;cases e),
   fun b e=>⟨(Option.some.inj e).symm,t,sz,r,hr⟩,.inl ⟨rfl,t,sz,r,hr⟩,fun fz t2 s2 r2 e=>by
    rw[hr]at e
    cases e
    refine .inr ⟨p1.symm,rfl,rfl,rfl,rfl,fun c hc=>⟨_,hnew, ?_⟩⟩
    rw[h1]at hc
    cases hc
    exact ub7 cur vs _ hfit⟩
 have hk:=p.kp h
 refine⟨w.setRow (M.phi id) (spl cur (M.off id+i*sz+o) vs), ?_,by rw[kn7]at hk;exact hk,hrun,hg.size,fun b hb hne=>hg.block b hb (fun e=>hne (Option.some.inj e))⟩
 have hrel:=p.rel h ⟨spl cur (M.off id+i*sz+o) vs,hnew,h2,by rw[p1];unfold spl;rw[ub7 _ _ _ hfit];exact h3,by unfold spl;rw[ub7 _ _ _ hfit];exact h4,fun hb=>by unfold spl;rw[ub7 _ _ _ hfit];exact h5 (by rw[← iib7];exact hb),fun i' hi' o' ho'=>?_⟩
 ·rw[kn7]at hrel;exact hrel
 ·rw[p1]at hi'
  obtain⟨v,k1,k2,k3⟩:=h6 i' hi' o' ho'
  have hkr:∀{a:AV} {u:Value},vd7 M H w r.isBox a u→vd7 (M.upd id (M.phi id) (M.off id)) (ca7 H id (.live false t sz (r.put sz i o cs).2)) (w.setRow (M.phi id) (spl cur (M.off id+i*sz+o) vs)) (r.put sz i o cs).2.isBox a u:=fun {a u} c=>by
   rw[p2]
   unfold vd7 at c ⊢
   split
   ·rename_i hb;rw[if_pos hb]at c;exact hk _ _ c
   ·rename_i hb;rw[if_neg hb]at c;exact c.keep (p.rho h) (fun _ h=>h)
  have hj:∀u,vd7 (M.upd id (M.phi id) (M.off id)) (ca7 H id (.live false t sz (r.put sz i o cs).2)) (w.setRow (M.phi id) (spl cur (M.off id+i*sz+o) vs)) (r.put sz i o cs).2.isBox .junk u:=fun u=>by
   unfold vd7;split <;> trivial
  by_cases e:i'=i∧o≤o'∧o'<o+cs.length
  ·obtain⟨rfl,e1,e2⟩:=e
   have hlt:o'-o<vs.length:=by omega
   refine⟨vs[o'-o], ?_,hone _ (List.getElem_mem hlt), ?_⟩
   ·unfold spl
    rw[wd7 _ _ _ _ hfit,if_pos (by omega),show M.off id+i'*sz+o'-(M.off id+i'*sz+o)=o'-o by omega,List.getElem?_eq_getElem hlt]
   ·rcases p3 i' o' hi' ho' with q | q
    ·rw[q,if_pos ⟨rfl,e1,e2⟩];exact hkr (hcs _ _ (List.getElem?_eq_getElem hlt))
    ·rw[q];exact hj _
  ·refine⟨v, ?_,k2, ?_⟩
   ·unfold spl
    rw[wd7 _ _ _ _ hfit,if_neg,k1]
    intro hb
    apply e
    have:i'=i:=by
     rcases Nat.lt_trichotomy i' i with hlt | rfl | hlt
     ·have:=Nat.mul_le_mul_right sz hlt
      rw[Nat.succ_mul]at this
      omega
     ·rfl
     ·have:=Nat.mul_le_mul_right sz hlt
      rw[Nat.succ_mul]at this
      omega
    subst this
    exact⟨rfl,by omega,by omega⟩
   ·rcases p3 i' o' hi' ho' with q | q
    ·rw[q,if_neg e];exact hkr k3
    ·rw[q];exact hj _
end
section
variable {P:Program} {ty:Ty} {E:Env} {nt:Nat} {M M':Mp} {H H':List Root} {σ:AS} {a:Act} {w w':World}
theorem Row.notOne {r:Row}(h:r.isBox=false):r.one=false:=by cases r <;> first | rfl | (cases h;done)
theorem vd7.of0 {bx:Bool}{x:AV}{v:Value}(h:lb7 M.rho w x v):vd7 M H w bx x v:=by
 unfold vd7;split
 ·exact Con.of0 h
 ·exact h
theorem vd7.keep {bx:Bool}{x:AV}{v:Value}(hk:Kp M H w M' H' w') (hr:∀b,M.rho b→w'.heap[b]? = w.heap[b]?) (hrr:∀b,M.rho b→M'.rho b) (h:vd7 M H w bx x v):vd7 M' H' w' bx x v:=by
 unfold vd7 at h ⊢; split
 ·rename_i hb;rw[if_pos hb]at h;exact hk _ _ h
 ·rename_i hb;rw[if_neg hb]at h;exact h.keep hr hrr
theorem be7 (h:Rel E M H w) (hg:w.grownBy w' none) {cur:Array Value}{t:TypeId}(hb:w'.heap[w.heap.size]? = some (.cells cur t (0,0))) {sz:Nat}{r:Row}(hbx:r.one=false) (h0:0<sz) {cap:Nat}(hc:cap*sz=cur.size) (hl:r.len≤cap)
  (hv:∀i,i<r.len→∀o,o<sz→∃v,cur[i*sz+o]? = some v∧v.oneCell'=true∧vd7 M H w r.isBox (r.get i o) v) :
  Rel E (M.upd H.length w.heap.size 0) (H++[.live false t sz r]) w'∧Kp M H w (M.upd H.length w.heap.size 0) (H++[.live false t sz r]) w':=by
 have p:=Put.push h hg (t:=t) (sz:=sz) (r:=r)
 refine⟨p.rel h ⟨cur,hb,h0, ?_,⟨cap,by rw[Nat.zero_add];exact hc⟩,fun hb=>(by rw[hbx]at hb;cases hb),fun i hi o ho=>?_⟩,p.kp h⟩
 ·rw[Nat.zero_add,← hc];exact Nat.mul_le_mul_right _ hl
 ·obtain⟨v,h1,h2,h3⟩:=hv i hi o ho
  exact⟨v,by rw[Nat.zero_add];exact h1,h2,h3.keep (p.kp h) (p.rho h) (fun _ h=>h)⟩
theorem lb7.one {rho:Nat→Prop}{x:AV}{v:Value}(hn:x.nj=true) (h:lb7 rho w x v):v.oneCell'=true:=by
 cases x with
 | ptr=>exact h.elim
 | h=>exact h.elim
 | ws=>exact h.elim
 | wu=>exact h.elim
 | wp=>exact h.elim
 | junk=>cases hn
 | sl=>obtain⟨a,b,off,c,rfl,-⟩:=h;rfl
 | rp=>obtain⟨b,off,rfl,-⟩:=h;rfl
 | int=>cases h;rfl
 | bool=>cases h;rfl
 | flt=>cases h;rfl
 | str=>cases h;rfl
 | nilp=>cases h;rfl
 | nils=>cases h;rfl
theorem et7 (z:List AV):∀n,(rep z n).length=n*z.length
 | 0=>by simp[rep]
 | n+1=>by simp[rep,et7 z n,Nat.add_mul];omega
theorem oy7 (z:List AV):∀n j,j<n*z.length→nth (rep z n) j=nth z (j % z.length)
 | 0,j,h=>by simp at h
 | n+1,j,h=>by
  simp only[rep]
  rw[lm7]
  split
  ·rename_i hlt;rw[Nat.mod_eq_of_lt hlt]
  ·rename_i hlt
   rw[Nat.add_mul]at h
   rw[oy7 z n _ (by omega),← Nat.mod_eq_sub_mod (by omega)]
theorem kq7:∀(n:Nat) (l:List AV) (j:Nat),j<n→nth (takeN n l) j=nth l j
 | n+1,[],j,_=>by simp[takeN,nth]
 | n+1,a::l,0,_=>rfl
 | n+1,a::l,j+1,h=>kq7 n l j (by omega)
theorem uq7:∀(n:Nat) (l:List AV) (j:Nat),nth (px7 n l) j=nth l (n+j)
 | 0,l,j=>by simp[px7]
 | n+1,[],j=>by simp[px7,nth]
 | n+1,a::l,j=>by rw[show n+1+j=(n+j)+1 by omega];exact uq7 n l j
theorem dl7 (sz:Nat):∀(n:Nat) (l:List AV),(chunk sz n l).length=n
 | 0,_=>rfl
 | n+1,l=>by simp[chunk,dl7 sz n]
theorem nh7 (sz:Nat):∀(n:Nat) (l:List AV) (i o:Nat),i<n→o<sz→nth ((chunk sz n l).getD i []) o=nth l (i*sz+o)
 | n+1,l,0,o,_,h=>by simp only[chunk,List.getD_cons_zero,Nat.zero_mul,Nat.zero_add];exact kq7 _ _ _ h
 | n+1,l,i+1,o,hi,h=>by
  simp only[chunk,List.getD_cons_succ]
  rw[nh7 sz n _ i o (by omega) h,uq7]
  congr 1
  rw[Nat.add_mul];omega
theorem dk7 {k:IntKind}:∀{els:List (List AV)}{l:List Int},sj7 k els=some l→l.length=els.length∧∀i,i<els.length→els.getD i []=[.int k (l.getD i 0)]
 | [],l,h=>by cases h;exact⟨rfl,fun i hi=>absurd hi (Nat.not_lt_zero _)⟩
 | x::els,l,h=>by
  unfold sj7 at h
  split at h
  ·rename_i he;cases he
  ·rename_i k' n l' he
   obtain⟨rfl,rfl⟩:=List.cons.inj he
   split at h
   ·rename_i hk
    subst hk
    obtain⟨m,hm,rfl⟩:=Option.map_eq_some_iff.1 h
    obtain⟨h1,h2⟩:=dk7 hm
    refine⟨by simp[h1],fun i hi=>?_⟩
    cases i with
    | zero=>rfl
    | succ i=>simpa using h2 i (by simpa using hi)
   ·cases h
  ·cases h
theorem mi7:∀{els:List (List AV)}{l:List Bool},rh7 els=some l→l.length=els.length∧∀i,i<els.length→els.getD i []=[.bool (l.getD i false)]
 | [],l,h=>by cases h;exact⟨rfl,fun i hi=>absurd hi (Nat.not_lt_zero _)⟩
 | x::els,l,h=>by
  unfold rh7 at h
  split at h
  ·rename_i he;cases he
  ·rename_i n l' he
   obtain⟨rfl,rfl⟩:=List.cons.inj he
   obtain⟨m,hm,rfl⟩:=Option.map_eq_some_iff.1 h
   obtain⟨h1,h2⟩:=mi7 hm
   refine⟨by simp[h1],fun i hi=>?_⟩
   cases i with
   | zero=>rfl
   | succ i=>simpa using h2 i (by simpa using hi)
  ·cases h
theorem ky7 {k:TyK}{els:List (List AV)}(h:(mf7 k els).1):(mf7 k els).2.len=els.length∧(mf7 k els).2.isBox=false∧∀i o,i<els.length→nth (els.getD i []) o=(mf7 k els).2.get i o∨nth (els.getD i []) o = .junk:=by
 unfold mf7 at h ⊢
 split at h
 ·split at h
  ·rename_i l hl
   obtain⟨h1,h2⟩:=dk7 hl
   refine⟨h1,rfl,fun i o hi=>?_⟩
   rw[h2 i hi]
   cases o with
   | zero=>exact .inl rfl
   | succ o=>exact .inr rfl
  ·exact h.elim
 ·split at h
  ·rename_i l hl
   obtain⟨h1,h2⟩:=mi7 hl
   refine⟨h1,rfl,fun i o hi=>?_⟩
   rw[h2 i hi]
   cases o with
   | zero=>exact .inl rfl
   | succ o=>exact .inr rfl
  ·exact h.elim
 ·exact h.elim
 ·exact⟨rfl,rfl,fun i o _=>.inl rfl⟩
theorem hlb7 {x:AV}(h:x.nj=true) (hp:∀id n i o,x ≠ .ptr id n i o) (hv:∀id st len,x = .h id st len→an7 H id st len):(frz H x).nj=true:=by
 cases x with
 | h id st len =>
  have:=hv _ _ _ rfl
  unfold an7 at this
  split at this
  ·rename_i hr;simp only[frz,hr];rfl
  ·exact this.elim
 | ptr=>exact absurd rfl (hp _ _ _ _)
 | junk=>cases h
 | _=>rfl
theorem lc7:∀{l:List AV},bb7 H l→∀j,j<l.length→(nth (hh7 H l) j).nj=true
 | a::l,h,0,_=>by
  cases a with
  | h=>exact hlb7 rfl (fun _ _ _ _ e=>by cases e) (fun _ _ _ e=>by cases e;exact h.1)
  | ptr=>exact h.elim
  | junk=>exact h.elim
  | ws=>exact h.elim
  | wu=>exact h.elim
  | wp=>exact h.elim
  | _=>rfl
 | a::l,h,j+1,hj=>by
  have hj':j<l.length:=by simpa using hj
  cases a with
  | h=>exact lc7 h.2 j hj'
  | ptr=>exact h.elim
  | junk=>exact h.elim
  | ws=>exact h.elim
  | wu=>exact h.elim
  | wp=>exact h.elim
  | int=>exact lc7 (l:=l) h j hj'
  | bool=>exact lc7 (l:=l) h j hj'
  | flt=>exact lc7 (l:=l) h j hj'
  | str=>exact lc7 (l:=l) h j hj'
  | nilp=>exact lc7 (l:=l) h j hj'
  | nils=>exact lc7 (l:=l) h j hj'
  | sl=>exact lc7 (l:=l) h j hj'
  | rp=>exact lc7 (l:=l) h j hj'
theorem bmb7 (h:Rel E M H w) {l:List AV}{vs:Array Value}{n sz:Nat}{k:TyK}(e:TypeId) (hc:mb7 M H w l vs.toList) (hf:bb7 H l) (hm:(mf7 k (chunk sz n (hh7 H l))).1) (h0:0<sz) (hn:n*sz=l.length) (hmax:n≤maxLen) :
  ∃M',Rel E M' (frzH H l++[.live false e sz (mf7 k (chunk sz n (hh7 H l))).2]) (w.alloc (.cells vs e))∧Kp M H w M' (frzH H l++[.live false e sz (mf7 k (chunk sz n (hh7 H l))).2]) (w.alloc (.cells vs e)) ∧
   Con M' (frzH H l++[.live false e sz (mf7 k (chunk sz n (hh7 H l))).2]) (w.alloc (.cells vs e)) (.h H.length 0 n) (.slice (some ⟨w.heap.size,0,none⟩) n n):=by
 obtain⟨M1,e1,e2,h1,k1,c1⟩:=mh7 l h hf
 have hcl:=c1 _ hc
 have hlen:=hcl.len
 rw[aj7]at hlen
 obtain⟨m1,m2,m3⟩:=ky7 hm
 rw[dl7]at m1 m3
 have hg:w.grownBy (w.alloc (.cells vs e)) none:=⟨rfl,rfl,rfl,by simp,fun k hk _=>Below.heap_alloc _ _ _ hk⟩
 have hsz:n*sz=vs.size:=by simp at hlen;omega
 obtain⟨r1,r2⟩:=be7 h1 hg (pd7 w _) (Row.notOne m2) h0 hsz (by omega) (fun i hi o ho=>by
  have hi':i<n:=by omega
  have hlt:i*sz+o<l.length:=by
   rw[← hn]
   have:(i+1)*sz≤n*sz:=Nat.mul_le_mul_right _ hi'
   rw[Nat.add_mul]at this
   omega
  have hlt2:i*sz+o<vs.size:=by omega
  have hcon:=hcl.get (i*sz+o) vs[i*sz+o] (by simp[hlt2])
  have hnj:=lc7 hf _ hlt
  refine⟨vs[i*sz+o],by simp[hlt2],hcon.one hnj, ?_⟩
  rcases m3 i o hi' with q | q
  ·rw[← q,nh7 _ _ _ _ _ hi' ho];exact (vd7.of0 hcon)
  ·rw[nh7 _ _ _ _ _ hi' ho]at q
   rw[q]at hnj;cases hnj)
 refine⟨_,r1,k1.trans r2, ?_⟩
 have:=dg7 (M:=M1) (H:=frzH H l) (w:=w) (w':=w.alloc (.cells vs e)) (t:=e) (sz:=sz) (n:=n) (cap:=n) (r:=(mf7 k (chunk sz n (hh7 H l))).2) (cur:=vs) m1.symm (Nat.le_refl _) hmax (pd7 w _) hsz
 rw[dd7]at this ⊢
 exact this
theorem pe7 (hT:qb7 P ty) (h:St E nt M σ a w) (t e:TypeId) (hk:(ty t).k = .sl e) (n:Nat) (ps:Array (Nat×Operand)) (hg:gOk true (pgs σ.rd ps.toList))
  (ho:(sb7 (fun i=>(i*(ty e).sz,(ty e).sz)) σ.rd (rep (ty e).zero n) ps.toList).1) (h0:0<(ty e).sz) (hmax:n*(ty e).sz≤16777216) :
  ∃out:Array Value,mb7 M σ.H w (sb7 (fun i=>(i*(ty e).sz,(ty e).sz)) σ.rd (rep (ty e).zero n) ps.toList).2 out.toList∧out.size=n*(ty e).sz∧∀w',(Instr.buildSlice t n (ps.map fun (i,x)=>(i,a.eval x))).run P w' = .ok (.slice (some ⟨w'.heap.size,0,none⟩) n n) (w'.alloc (.cells out e)):=by
 obtain⟨hu,hke⟩:P.underlying t=some (.slice e)∧_:=na7 hT hk
 obtain⟨i,z,hi,hz,hs,-,hzs,hzl,hzc⟩:=ic7 (M:=M) (σ:=σ) (w:=w) (P:=P) hT (t:=e) hke
 have hzl2:(ty e).zero.length=(ty e).sz:=by have:=hzc.len;simp at this;omega
 have hzero:mb7 M σ.H w (rep (ty e).zero n) (((Array.range (n*i.size)).map (z.cells[· % z.cells.size]!)).toList):=by
  refine mb7.of_getElem (by rw[et7,hzl2,hs];simp) fun j v hj=>?_
  have hjl:j<n*(ty e).sz:=by
   have:=(List.getElem?_eq_some_iff.1 hj).1
   simpa[hs]using this
  have hpos:j % (ty e).sz<z.cells.size:=by rw[hzs];exact Nat.mod_lt _ h0
  have hv:v=z.cells[j % (ty e).sz]:=by
   simp only[Array.getElem?_toList,Array.getElem?_map,Array.getElem?_range,hs,hjl,if_true,Option.map_some,Option.some.injEq]at hj
   rw[← hj,hzs]
   exact getElem!_pos z.cells _ hpos
  rw[oy7 _ _ _ (by rw[hzl2];exact hjl),hzl2]
  refine hzc.get _ _ ?_
  rw[hv];simp[hpos]
 obtain⟨out,h1,h2⟩:=to7 (M:=M) (σ:=σ) (w:=w) (a:=a) (fun i=>(i*(ty e).sz,(ty e).sz)) (fun i=>some (i*(ty e).sz,(ty e).sz)) (fun _ _=>rfl) ps.toList (rep (ty e).zero n) _ (fun x _ hx=>h.rd hx) hg hzero ho
 have hlen:∀(ps:List (Nat×Operand)) (l:List AV),(sb7 (fun i=>(i*(ty e).sz,(ty e).sz)) σ.rd l ps).2.length=l.length:=by
  intro ps
  induction ps with
  | nil=>intro l;rfl
  | cons p ps ih=>intro l;obtain⟨i,x⟩:=p;simp only[sb7];rw[ih,nt7]
 have hos:out.size=n*(ty e).sz:=by
  have:=h2.len
  rw[hlen,et7,hzl2]at this
  simpa using this
 refine⟨out,h2,hos,fun w'=>?_⟩
 rcases Nat.eq_zero_or_pos n with rfl | hn0
 ·have hps:ps.toList=[]:=by
   cases hq:ps.toList with
   | nil=>rfl
   | cons q qs =>
    rw[hq]at ho
    obtain⟨⟨-,-,-,h4⟩,-⟩:=ho
    simp only[rep,List.length_nil]at h4
    omega
  have hps2:ps = #[]:=by simpa using hps
  subst hps2
  have:out = #[]:=by simpa using hos
  subst this
  have hz0:(Array.map (fun _=>(default:Value)) (Array.range 0)) = #[]:=by simp
  simp[Instr.buildSlice,run_underlying hu,sizeOf,typeInfo,hi,newRow,Instr.fill,hz0]
 refine run_buildSlice w' t e n _ out i z hu hi hz (by rw[hs];omega) (by rw[hs];exact Nat.pos_iff_ne_zero.1 (Nat.mul_pos hn0 h0)) ?_
 rw[← h1,hs]
 simp
theorem jab7 {k:TyK}{z:List AV}(hz:zOk k z) (n:Nat):(zeros k z n).len=n∧(zeros k z n).isBox=false∧∀i o,i<n→o<z.length→(zeros k z n).get i o=nth z o:=by
 unfold zOk at hz
 unfold zeros
 split at hz
 ·subst hz
  refine⟨by simp[Row.len],rfl,fun i o hi ho=>?_⟩
  have:o=0:=by simpa using ho
  subst this
  simp[Row.get,nth,List.getD_eq_getElem?_getD,List.getElem?_replicate,hi]
 ·subst hz
  refine⟨by simp[Row.len],rfl,fun i o hi ho=>?_⟩
  have:o=0:=by simpa using ho
  subst this
  simp[Row.get,nth,List.getD_eq_getElem?_getD,List.getElem?_replicate,hi]
 ·exact hz.elim
 ·rename_i h1 h2 h3
  split
  ·exact absurd rfl (h1 _)
  ·exact absurd rfl h2
  ·refine⟨by simp[Row.len],rfl,fun i o hi ho=>?_⟩
   simp[Row.get,List.getD_eq_getElem?_getD,List.getElem?_replicate,hi]
theorem tm7 {wk:Option (List CK)}{k:TyK}{z:List AV}(hz:zOk k z) (n:Nat):(jd7 wk k z n).len=n∧(jd7 wk k z n).one=false∧∀i o,i<n→o<z.length→(jd7 wk k z n).get i o=nth z o:=by
 unfold jd7
 split
 ·refine⟨by simp[Row.len],rfl,fun i o hi ho=>?_⟩
  simp[Row.get,List.getD_eq_getElem?_getD,List.getElem?_replicate,hi]
 ·obtain⟨h1,h2,h3⟩:=jab7 hz n
  exact⟨h1,Row.notOne h2,h3⟩
theorem xgb7 (hT:qb7 P ty) (h:Rel E M H w) (t e:TypeId) (hk:(ty t).k = .sl e) (kl kc:IntKind) (n:Int) (h1:0≤n) (h2:n≤1099511627776) (h0:0<(ty e).sz) (hb:(ty e).bytes≤128) (hz:zOk (ty e).k (ty e).zero) :
  ∃M' w' v,(Instr.makeSlice t (.int kl n) (.int kc n)).run P w = .ok v w'∧Below w.heap.size w w'∧Rel E M' (H++[.live false e (ty e).sz (jd7 (ty e).wk (ty e).k (ty e).zero n.toNat)]) w'∧Kp M H w M' (H++[.live false e (ty e).sz (jd7 (ty e).wk (ty e).k (ty e).zero n.toNat)]) w'∧Con M' (H++[.live false e (ty e).sz (jd7 (ty e).wk (ty e).k (ty e).zero n.toNat)]) w' (.h H.length 0 n.toNat) v:=by
 obtain⟨hu,hke⟩:P.underlying t=some (.slice e)∧_:=na7 hT hk
 obtain⟨i,z,hi,hzz,hs,hby,hzs,hzl,-⟩:=ic7 (M:=M) (σ:=⟨[],H⟩) (w:=w) (P:=P) hT (t:=e) hke
 obtain⟨m,rfl⟩:∃m:Nat,n=m:=⟨n.toNat,by omega⟩
 have hmx:m≤maxLen:=by unfold maxLen;omega
 have hzn:(ty e).zero.length=(ty e).sz:=by have:=gk7 hzl;simp at this;omega
 obtain⟨w',hr,hown,hg⟩:=run_make_full (P:=P) (w:=w) w.heap.size t e i z (ty e).sz hu hi hzz hs kl kc m (by rw[hby];have:=Nat.mul_le_mul hb (show m≤1099511627776 by omega);omega) hmx (Nat.le_refl _)
 obtain⟨hl,hor⟩:=hown
 rcases hor with ⟨hbad,-⟩ | ⟨g,cap,cur,hv,hge,hheap,hcap,hcm,hcs,htk⟩
 ·cases hbad
 ·cases hv
  have hcur:cur.toList=(madeCells z.cells (m*(ty e).sz)).toList:=by rw[← htk,List.take_of_length_le];simp[hcs]
  have hcur2:cur=madeCells z.cells (m*(ty e).sz):=Array.toList_inj.1 hcur
  obtain⟨z1,z2,z3⟩:=tm7 (wk:=(ty e).wk) hz m
  obtain⟨r1,r2⟩:=be7 (r:=jd7 (ty e).wk (ty e).k (ty e).zero m) h hg hheap z2 h0 hcs.symm (by omega) (fun i hi o ho=>by
   have hi':i<m:=by omega
   have hlt:i*(ty e).sz+o<m*(ty e).sz:=by
    have:(i+1)*(ty e).sz≤m*(ty e).sz:=Nat.mul_le_mul_right _ hi'
    rw[Nat.add_mul]at this
    omega
   have ho2:o<z.cells.size:=by omega
   have hzo:=tk7 hzl o z.cells[o] (by simp[ho2])
   refine⟨z.cells[o], ?_,ks7 hzo, ?_⟩
   ·rw[hcur2]
    unfold madeCells
    have hmod:(i*(ty e).sz+o) % z.cells.size=o:=by rw[hzs,Nat.mul_comm,Nat.mul_add_mod];exact Nat.mod_eq_of_lt ho
    simp only[Array.getElem?_map,Array.getElem?_range,hlt,if_true,Option.map_some,hmod]
    rw[getElem!_pos z.cells o ho2]
   ·rw[z3 i o hi' (by omega)];exact vd7.of0 (kt7 hzo))
  refine⟨_,w',_,hr,⟨hg.os,hg.tape,hg.output,hg.size,fun k hk=>hg.block k hk (by simp)⟩,r1,r2, ?_⟩
  exact dg7 (w:=w) z1.symm (Nat.le_refl _) hmx hheap hcs.symm
theorem zo7 {r:Row}(hb:r.one=false) (st:Nat):((r.drop st).one=false∧(r.drop st).isBox=r.isBox)∧(r.drop st).len=r.len-st∧∀i o,(r.drop st).get i o=r.get (st+i) o:=by
 cases r with
 | box=>cases hb
 | own l=>exact⟨⟨rfl,rfl⟩,by simp[Row.drop,Row.len],fun i o=>by simp[Row.drop,Row.get,List.getD_eq_getElem?_getD,List.getElem?_drop]⟩
 | ints k l=>exact⟨⟨rfl,rfl⟩,by simp[Row.drop,Row.len],fun i o=>by simp[Row.drop,Row.get,List.getD_eq_getElem?_getD,List.getElem?_drop]⟩
 | bools l=>exact⟨⟨rfl,rfl⟩,by simp[Row.drop,Row.len],fun i o=>by simp[Row.drop,Row.get,List.getD_eq_getElem?_getD,List.getElem?_drop]⟩
 | gen l=>exact⟨⟨rfl,rfl⟩,by simp[Row.drop,Row.len],fun i o=>by simp[Row.drop,Row.get,List.getD_eq_getElem?_getD,List.getElem?_drop]⟩
theorem me7 {α:Type}(l m:List α) (i:Nat) (d:α):(l++m).getD i d=if i<l.length then l.getD i d else m.getD (i-l.length) d:=by
 simp only[List.getD_eq_getElem?_getD]
 split
 ·rename_i h;rw[List.getElem?_append_left h]
 ·rename_i h;rw[List.getElem?_append_right (by omega)]
theorem gs7 {r s:Row}(h:(r.app s).1):(r.app s).2.one=false∧((r.app s).2.isBox=r.isBox∧s.isBox=r.isBox)∧(r.app s).2.len=r.len+s.len∧∀i o,(r.app s).2.get i o=if i<r.len then r.get i o else s.get (i-r.len) o:=by
 unfold Row.app at h ⊢
 split at h
 ·rename_i k l k' m
  simp only at h
  subst h
  exact⟨rfl,⟨rfl,rfl⟩,by simp[Row.len],fun i o=>by simp only[Row.get,Row.len,me7];split <;> simp[*]⟩
 ·exact⟨rfl,⟨rfl,rfl⟩,by simp[Row.len],fun i o=>by simp only[Row.get,Row.len,me7];split <;> simp[*]⟩
 ·exact⟨rfl,⟨rfl,rfl⟩,by simp[Row.len],fun i o=>by simp only[Row.get,Row.len,me7];split <;> simp[*]⟩
 ·exact⟨rfl,⟨rfl,rfl⟩,by simp[Row.len],fun i o=>by simp only[Row.get,Row.len,me7];split <;> simp[*]⟩
 ·exact h.elim
structure ucb7 (M:Mp) (H:List Root) (w:World) (v:Value) (s:Row) (sz:Nat) (ad:Addr) (c:Nat) (news:List Value):Prop where
 v:v = .slice (some ad) s.len c
 len:news.length=s.len*sz
 cell:∀j u,news[j]? = some u→w.cell? (ad.add j)=some u
 one:∀u∈news,u.oneCell'=true
 con:∀i o,i<s.len→o<sz→∃u,news[i*sz+o]? = some u∧vd7 M H w s.isBox (s.get i o) u
theorem km7 {k:IntKind}{g:Nat→AV}:∀{n i:Nat}{l:List Int},nv7 k g i n=some l→l.length=n∧∀j,j<n→g (i+j) = .int k (l.getD j 0)
 | 0,i,l,h=>by cases h;exact⟨rfl,fun j hj=>absurd hj (Nat.not_lt_zero _)⟩
 | n+1,i,l,h=>by
  unfold nv7 at h
  split at h
  ·rename_i k' v hg
   split at h
   ·rename_i hk
    subst hk
    obtain⟨m,hm,rfl⟩:=Option.map_eq_some_iff.1 h
    obtain⟨h1,h2⟩:=km7 hm
    refine⟨by simp[h1],fun j hj=>?_⟩
    cases j with
    | zero=>simpa using hg
    | succ j =>
     have:=h2 j (by omega)
     rw[show i+1+j=i+(j+1) by omega]at this
     simpa using this
   ·cases h
  ·cases h
theorem bw7 (f:Nat→Nat→AV) (sz:Nat):∀n i:Nat,(ww7 f sz i n).length=n
 | 0,_=>rfl
 | n+1,i=>by simp[ww7,bw7 f sz n (i+1)]
theorem lw7 (f:Nat→Nat→AV) (sz:Nat):∀n i j:Nat,j<n→(ww7 f sz i n).getD j []=tab (f (i+j)) 0 sz
 | 0,_,_,h=>absurd h (Nat.not_lt_zero _)
 | n+1,i,0,_=>rfl
 | n+1,i,j+1,h=>by
  have:=lw7 f sz n (i+1) j (by omega)
  rw[show i+1+j=i+(j+1) by omega]at this
  simpa[ww7]using this
theorem jr7 (n sz:Nat) (f:Nat→Nat→AV):(ex7 n sz f).len=n∧(ex7 n sz f).one=false∧(ex7 n sz f).isBox=false∧∀i o,i<n→o<sz→(ex7 n sz f).get i o=f i o:=by
 have gen:(Row.gen (ww7 f sz 0 n)).len=n∧(Row.gen (ww7 f sz 0 n)).one=false∧(Row.gen (ww7 f sz 0 n)).isBox=false∧∀i o,i<n→o<sz→(Row.gen (ww7 f sz 0 n)).get i o=f i o:=by
  refine⟨bw7 f sz n 0,rfl,rfl,fun i o hi ho=>?_⟩
  show nth ((ww7 f sz 0 n).getD i []) o=_
  rw[lw7 f sz n 0 i hi,jo7 _ _ _ _ ho,Nat.zero_add,Nat.zero_add]
 unfold ex7
 split
 ·split
  ·rename_i l hl
   obtain⟨h1,h2⟩:=km7 hl
   split
   ·rename_i hs
    refine⟨h1,rfl,rfl,fun i o hi ho=>?_⟩
    have:=h2 i hi
    rw[Nat.zero_add]at this
    rw[show o=0 by omega,this];rfl
   ·exact gen
  ·exact gen
 ·exact gen
theorem src_ok (h:Rel E M H w) {x:RV}{v:Value}(hx:ha7 M H w x v) (ho:(ta7 H x).1):∃ad c news,ucb7 M H w v (ta7 H x).2.1 (ta7 H x).2.2 ad c news:=by
 unfold ta7 at ho ⊢
 split at ho
 ·rename_i n sz f
  obtain⟨⟨h0,h1⟩,hnj⟩:=ho
  simp only[List.all_eq_true,List.mem_range]at hnj
  obtain⟨a,b,off,c,rfl,k1,k2,k3,k4⟩:=hx
  obtain⟨rfl,hrho⟩:=k3 h0
  obtain⟨g1,g2,g3,g4⟩:=jr7 n sz f
  obtain⟨news,n1,n2⟩:=nj7 (Q:=fun j u=>w.cell? ⟨b,off+j,none⟩=some u∧lb7 M.rho w (f (j / sz) (j % sz)) u) (n*sz) fun j hj=>by
   have hi:j / sz<n:=(Nat.div_lt_iff_lt_mul h1).2 hj
   obtain⟨u,u1,u2⟩:=k4 (j / sz) hi (j % sz) (Nat.mod_lt _ h1)
   refine⟨u, ?_,u2⟩
   rw[← u1]
   congr 2
   rw[Nat.add_assoc,Nat.mul_comm (j / sz),Nat.div_add_mod]
  refine⟨⟨b,off,none⟩,c,news,⟨by rw[g1],by rw[g1];exact n1,fun j u hj=>?_,fun u hu=>?_,fun i o hi ho=>?_⟩⟩
  ·rw[addr_add];exact (n2 j u hj).1
  ·obtain⟨j,hj,rfl⟩:=List.getElem_of_mem hu
   have hj2:j<n*sz:=by rw[← n1];exact hj
   exact lb7.one (hnj _ ((Nat.div_lt_iff_lt_mul h1).2 hj2) _ (Nat.mod_lt _ h1)) (n2 j _ (List.getElem?_eq_getElem hj)).2
  ·rw[g1]at hi
   have ho:o<sz:=ho
   have hlt:i*sz+o<n*sz:=by
    have:(i+1)*sz≤n*sz:=Nat.mul_le_mul_right _ hi
    rw[Nat.add_mul]at this
    omega
   obtain⟨u,hu⟩:∃u,news[i*sz+o]? = some u:=⟨_,List.getElem?_eq_getElem (by rw[n1];exact hlt)⟩
   refine⟨u,hu, ?_⟩
   have:=(n2 _ u hu).2
   rw[show (i*sz+o) / sz=i by rw[Nat.mul_comm,Nat.mul_add_div h1,Nat.div_eq_of_lt ho];rfl,show (i*sz+o) % sz=o by rw[Nat.mul_comm,Nat.mul_add_mod,Nat.mod_eq_of_lt ho]]at this
   unfold vd7
   rw[g3,if_neg (by simp),g4 i o hi ho]
   exact this
 ·rename_i id st len
  split at ho
  ·rename_i fz t sz r hr
   obtain⟨h1,h2⟩:=ho
   obtain⟨cap,cur,ad,rfl,h3,h4,h5,h6,h7⟩:=(hx.2 _ _ _ _ hr).2 h1
   obtain⟨cur2,k1,k2,k3,k4,k5,k6⟩:=h.row _ _ _ _ _ hr
   rw[h5]at k1
   cases k1
   obtain⟨⟨d0,d1⟩,d2,d3⟩:=zo7 h2 st
   have hl:(r.drop st).len=len:=by omega
   have hfit:M.off id+st*sz+len*sz≤cur.size:=by rw[Nat.add_assoc,← Nat.add_mul,h1];exact k3
   refine⟨ad,cap,(cur.toList.drop (M.off id+st*sz)).take (len*sz),⟨by rw[hl],by rw[hl];simp;omega,fun j u hj=>?_,fun u hu=>?_,fun i o hi ho=>?_⟩⟩
   ·have hjl:j<len*sz:=by have:=(List.getElem?_eq_some_iff.1 hj).1;simp at this;omega
    have hpos:0<len:=Nat.pos_of_ne_zero (fun h0=>by rw[h0,Nat.zero_mul]at hjl;omega)
    obtain rfl:=h7 (by omega)
    rw[List.getElem?_take_of_lt hjl,List.getElem?_drop]at hj
    rw[addr_add]
    simp only[World.cell?,h5,Option.isSome_none,Bool.false_eq_true,if_false]
    simpa using hj
   ·obtain⟨j,hj,rfl⟩:=List.getElem_of_mem hu
    have hjl:j<len*sz:=by simp at hj;omega
    have hi:j / sz<len:=(Nat.div_lt_iff_lt_mul k2).2 hjl
    obtain⟨v,e1,e2,e3⟩:=k6 (st+j / sz) (by omega) (j % sz) (Nat.mod_lt _ k2)
    have e4:M.off id+(st+j / sz)*sz+j % sz=M.off id+st*sz+j:=by rw[Nat.add_mul,← Nat.add_assoc (M.off id),Nat.add_assoc _ (j / sz*sz),Nat.mul_comm (j / sz),Nat.div_add_mod]
    rw[e4]at e1
    have:((cur.toList.drop (M.off id+st*sz)).take (len*sz))[j]=v:=by
     rw[List.getElem_take,List.getElem_drop]
     have hh:=(Array.getElem?_eq_some_iff.1 e1).2
     simpa using hh
    rw[this];exact e2
   ·rw[hl]at hi
    have ho:o<sz:=ho
    obtain⟨v,e1,e2,e3⟩:=k6 (st+i) (by omega) o ho
    have hlt:i*sz+o<len*sz:=by
     have:(i+1)*sz≤len*sz:=Nat.mul_le_mul_right _ hi
     rw[Nat.add_mul]at this
     omega
    refine⟨v, ?_, ?_⟩
    ·rw[List.getElem?_take_of_lt hlt,List.getElem?_drop,show M.off id+st*sz+(i*sz+o)=M.off id+(st+i)*sz+o by rw[Nat.add_mul];omega]
     simpa using e1
    ·rw[d1,d3];exact e3
  ·exact ho.elim
 ·exact ho.elim
theorem ty7 (hT:qb7 P ty) (h:Rel E M H w) (t e rt:TypeId) (hk:(ty t).k = .sl e) (h0:0<(ty e).sz) (hb:(ty e).bytes≤128) {v:Value}{s:Row}{ad:Addr}{c:Nat}{news:List Value}(hs:ucb7 M H w v s (ty e).sz ad c news) (hbx:s.one=false) (hn:0<s.len∧s.len≤1099511627776) :
  ∃M' w' v',(Builtin.append_ #[t,t] rt #[.slice none 0 0,v]).run P w = .ok v' w'∧Rel E M' (H++[.live false e (ty e).sz s]) w'∧Kp M H w M' (H++[.live false e (ty e).sz s]) w'∧Con M' (H++[.live false e (ty e).sz s]) w' (.h H.length 0 s.len) v'∧(w.heap.size≤w'.heap.size∧∀b,b<w.heap.size→w'.heap[b]? = w.heap[b]?):=by
 obtain⟨hu,hke⟩:P.underlying t=some (.slice e)∧_:=na7 hT hk
 obtain⟨i,z,hi,hzz,hsz,hby,hzs,hzl,-⟩:=ic7 (M:=M) (σ:=⟨[],H⟩) (w:=w) (P:=P) hT (t:=e) hke
 have hown:w.ownsRow w.heap.size e (ty e).sz (.slice none 0 0) 0 []:=⟨by simp,.inl ⟨rfl,rfl⟩⟩
 obtain⟨v',w',hr,ho,hg,hnone,hblk⟩:=run_append_own_at (P:=P) (w:=w) w.heap.size t rt e i z (ty e).sz (ty e).bytes hu hi hzz hsz hby hzs h0 (.slice none 0 0) 0 [] hown ad s.len c news hs.len hs.cell hs.one (by unfold maxLen;omega)
  (by have:=Nat.mul_le_mul (show 0+s.len≤1099511627776 by omega) hb;omega) (Nat.le_refl _)
 rw[← hs.v]at hr
 obtain⟨hl,hor⟩:=ho
 rcases hor with ⟨hbad,-⟩ | ⟨g,cap,cur,rfl,hge,hheap,hcap,hcm,hcs,htk⟩
 ·have:=(hnone.1 hbad).2;omega
 ·have hgg:g=w.heap.size:=by
   rcases hblk with hb | hb
   ·simp[Value.ownBlock]at hb
   ·simpa[Value.ownBlock]using hb
  subst hgg
  simp only[List.nil_append,Nat.zero_add]at htk hl hcap ⊢
  rw[Nat.zero_add]at hr
  obtain⟨r1,r2⟩:=be7 (r:=s) h hg hheap hbx h0 hcs.symm (by omega) (fun i hi o ho=>by
   obtain⟨u,u1,u2⟩:=hs.con i o hi ho
   refine⟨u, ?_,hs.one u (List.mem_of_getElem? u1),u2⟩
   have hlt:i*(ty e).sz+o<s.len*(ty e).sz:=by
    have:(i+1)*(ty e).sz≤s.len*(ty e).sz:=Nat.mul_le_mul_right _ hi
    rw[Nat.add_mul]at this
    omega
   rw[← htk,List.getElem?_take_of_lt hlt]at u1
   simpa using u1)
  exact⟨_,w',_,hr,r1,r2,dg7 (w:=w) rfl hcap hcm hheap hcs.symm,hg.size,fun b hb=>(show w.grownBy w' none from hg).block b hb (by simp)⟩
theorem pr7 (P:Program) {w:World}{b o:Nat}{cur:Array Value}{t:TypeId}{vs:List Value}(h:w.heap[b]? = some (.cells cur t (0,0))) (hl:o+vs.length≤cur.size) (h1:∀v∈vs,v.oneCell'=true) :
  w.setCells b o vs=w.setRow b (spl cur o vs)∧(∀j,j<vs.length→(w.cell? ⟨b,o+j,none⟩).isSome=true)∧∀j,j<vs.length→w.frozen? ⟨b,o+j,none⟩=false:=by
 have c1:∀j,j<vs.length→(w.cell? ⟨b,o+j,none⟩).isSome=true:=fun j hj=>by
  simp only[World.cell?,h,Option.isSome_none,Bool.false_eq_true,if_false]
  rw[Array.getElem?_eq_getElem (by omega)];rfl
 have c2:∀j,j<vs.length→w.frozen? ⟨b,o+j,none⟩=false:=fun j hj=>by
  simp[World.frozen?,h]
 have k1:=run_storeCells_at P b o t vs 0 cur w h (by omega) h1
 have k2:=run_storeCells_cells (P:=P) b o vs 0 w (by simpa using c1) (by simpa using c2) h1
 rw[k1]at k2
 simp only[Nat.add_zero]at k2
 injection k2 with _ k3
 exact⟨k3.symm,c1,c2⟩
theorem sn7 (w:World) (t tx rt e:TypeId) (i:TypeInfo) (ht:P.underlying t=some (.slice e)) (hi:P.info? e=some i) (base:Option Addr) (sLen sCap:Nat) (hle:sLen≤sCap) (x:Value) (hs:Src P i.size tx x 0 [] w) :
  (Builtin.append_ #[t,tx] rt #[.slice base sLen sCap,x]).run P w = .ok (.slice base sLen sCap) w:=by
 rcases hs.kind with ⟨e',hk⟩ | hk <;> cases base <;> simp[Builtin.append_,run_underlying ht,run_underlying hk,sizeOf,typeInfo,hi,hs.len,hle,hs.cells,storeCells]
theorem st7 (h:Rel E M H w) {id e sz:Nat}{r s:Row}(hr:aa7 H id = .live false e sz r) (happ:(r.app s).1) {w':World}{g f cap':Nat}{cur':Array Value}(hg:w.grownBy w' (some (M.phi id))) (hheap:w'.heap[g]? = some (.cells cur' e (0,0)))
  (hgg:g=M.phi id∨w.heap.size≤g) (h0:0<sz) (hcs:f+cap'*sz=cur'.size) (hcap:r.len+s.len≤cap')
  (hcell:∀i o,i<r.len+s.len→o<sz→∃u,cur'[f+i*sz+o]? = some u∧u.oneCell'=true∧vd7 M H w r.isBox (if i<r.len then r.get i o else s.get (i-r.len) o) u)
  (hold:0<s.len∨(g=M.phi id∧f=M.off id∧∀cur,w.heap[M.phi id]? = some (.cells cur e (0,0))→cur'.size=cur.size)) :
  Rel E (M.upd id g f) (ca7 H id (.live false e sz (r.app s).2)) w'∧Kp M H w (M.upd id g f) (ca7 H id (.live false e sz (r.app s).2)) w':=by
 obtain⟨a1,⟨a2,a5⟩,a3,a4⟩:=gs7 happ
 have hidl:=yb7 hr
 have p:Put E M H (ca7 H id (.live false e sz (r.app s).2)) w w' (some (M.phi id)) id g f e sz (r.app s).2 :=
  ⟨hg,fun j hj=>(by rw[jb7,if_neg (fun h=>hj h.1)]),(by rw[jb7,if_pos ⟨rfl,hidl⟩]),(by rw[da7];exact Nat.le_refl _),fun e=>(by rw[hr]at e;cases e),
   fun b e'=>⟨(Option.some.inj e').symm,_,_,r,hr⟩,(by rcases hgg with rfl | hgg;exact .inl ⟨rfl,_,_,r,hr⟩;exact .inr hgg),fun fz t2 s2 r2 e'=>by
    rw[hr]at e'
    cases e'
    rcases Nat.eq_zero_or_pos s.len with h0' | h0'
    ·rcases hold with hpos | ⟨rfl,rfl,h3⟩
     ·left;omega
     ·exact .inr ⟨by omega,rfl,rfl,rfl,rfl,fun c hc=>⟨cur',hheap,h3 c hc⟩⟩
    ·left;omega⟩
 have hk:=p.kp h
 refine⟨p.rel h ⟨cur',hheap,h0, ?_,⟨cap',hcs⟩,fun hb=>(by rw[a1]at hb;cases hb),fun i hi o ho=>?_⟩,hk⟩
 ·rw[a3,← hcs];exact Nat.add_le_add_left (Nat.mul_le_mul_right _ hcap) _
 ·rw[a3]at hi
  obtain⟨u,u1,u2,u3⟩:=hcell i o hi ho
  refine⟨u,u1,u2, ?_⟩
  rw[a2,a4]
  exact u3.keep hk (p.rho h) (fun _ h=>h)
structure wsb7 (M:Mp) (H:List Root) (w:World) (s:Row) (sz:Nat) (news:List Value):Prop where
 len:news.length=s.len*sz
 one:∀u∈news,u.oneCell'=true
 con:∀i o,i<s.len→o<sz→∃u,news[i*sz+o]? = some u∧vd7 M H w s.isBox (s.get i o) u
theorem lr7 (hT:qb7 P ty) (h:Rel E M H w) (t tx e rt:TypeId) (hk:(ty t).k = .sl e) (h0:0<(ty e).sz) (hb:(ty e).bytes≤128) {v q:Value}{s:Row}{news:List Value}(hs0:Src P (ty e).sz tx v s.len news w) (hs:wsb7 M H w s (ty e).sz news)
  {id len:Nat} {r:Row} (hr:aa7 H id = .live false e (ty e).sz r) (hlen:len=r.len) (hq:Con M H w (.h id 0 len) q) (hmax:len+s.len≤1099511627776) (happ:(r.app s).1) :
  ∃M' w' v',(Builtin.append_ #[t,tx] rt #[q,v]).run P w = .ok v' w'∧Rel E M' (ca7 H id (.live false e (ty e).sz (r.app s).2)) w'∧Kp M H w M' (ca7 H id (.live false e (ty e).sz (r.app s).2)) w'∧Con M' (ca7 H id (.live false e (ty e).sz (r.app s).2)) w' (.h id 0 (len+s.len)) v'∧(w.heap.size≤w'.heap.size∧∀b,b<w.heap.size→b≠M.phi id→w'.heap[b]? = w.heap[b]?):=by
 obtain⟨hu,hke⟩:P.underlying t=some (.slice e)∧_:=na7 hT hk
 obtain⟨i,z,hi,hzz,hsz,hby,hzs,hzl,-⟩:=ic7 (M:=M) (σ:=⟨[],H⟩) (w:=w) (P:=P) hT (t:=e) hke
 obtain⟨cap,cur,aq,rfl,q1,q2,q3,q4,q5⟩:=(hq.2 _ _ _ _ hr).2 (by omega)
 simp only[Nat.zero_mul,Nat.zero_add,Nat.add_zero]at q4 q5 ⊢
 obtain⟨cur2,k1,k2,k3,k4,k5,k6⟩:=h.row _ _ _ _ _ hr
 rw[q3]at k1
 cases k1
 subst hlen
 obtain⟨-,-,a3,-⟩:=gs7 happ
 have hidl:=yb7 hr
 have hsrc:Src P i.size tx v s.len news w:=by rw[hsz];exact hs0
 have con:∀{w':World} {g f cap':Nat} {cur':Array Value} {a':Addr},w'.heap[g]? = some (.cells cur' e (0,0))→f+cap'*(ty e).sz=cur'.size→r.len+s.len≤cap'→cap'≤maxLen→(0<cap'→a'=⟨g,f,none⟩) →
   Con (M.upd id g f) (ca7 H id (.live false e (ty e).sz (r.app s).2)) w' (.h id 0 (r.len+s.len)) (.slice (some a') (r.len+s.len) cap'):=fun hheap hcs hcap hcm ha=>by
  refine⟨⟨by rw[da7];exact hidl,rfl⟩,fun fz t2 s2 r2 e'=>?_⟩
  rw[jb7,if_pos ⟨rfl,hidl⟩]at e'
  cases e'
  exact⟨by omega,fun _=>⟨_,_,_,rfl,hcap,hcm,by simpa[Mp.upd]using hheap,by simpa[Mp.upd]using hcs,fun h=>by simpa[Mp.upd]using ha h⟩⟩
 have olds:∀{n:List Value} (i o:Nat),i<r.len→o<(ty e).sz→∃u,((cur.toList.drop (M.off id)).take (r.len*(ty e).sz)++n)[i*(ty e).sz+o]? = some u∧cur[M.off id+i*(ty e).sz+o]? = some u∧u.oneCell'=true∧vd7 M H w r.isBox (r.get i o) u:=fun i o hi ho=>by
  obtain⟨u,u1,u2,u3⟩:=k6 i hi o ho
  have hlt:i*(ty e).sz+o<r.len*(ty e).sz:=by
   have:(i+1)*(ty e).sz≤r.len*(ty e).sz:=Nat.mul_le_mul_right _ hi
   rw[Nat.add_mul]at this
   omega
  refine⟨u, ?_,u1,u2,u3⟩
  rw[List.getElem?_append_left (by simp;omega),List.getElem?_take_of_lt hlt,List.getElem?_drop,← Nat.add_assoc]
  simpa using u1
 have mids:∀(i o:Nat),r.len≤i→i<r.len+s.len→o<(ty e).sz→∃u,news[i*(ty e).sz+o-r.len*(ty e).sz]? = some u∧r.len*(ty e).sz≤i*(ty e).sz∧i*(ty e).sz+o-r.len*(ty e).sz<news.length∧u.oneCell'=true∧vd7 M H w r.isBox (if i<r.len then r.get i o else s.get (i-r.len) o) u:=fun i o h1 h2 ho=>by
  obtain⟨u,u1,u2⟩:=hs.con (i-r.len) o (by omega) ho
  have hle:r.len*(ty e).sz≤i*(ty e).sz:=Nat.mul_le_mul_right _ h1
  rw[Nat.sub_mul,show i*(ty e).sz-r.len*(ty e).sz+o=i*(ty e).sz+o-r.len*(ty e).sz by omega]at u1
  refine⟨u,u1,hle,(List.getElem?_eq_some_iff.1 u1).1,hs.one u (List.mem_of_getElem? u1), ?_⟩
  rw[if_neg (by omega),← (gs7 happ).2.1.2]
  exact u2
 rcases Nat.eq_zero_or_pos s.len with hz | hpos
 ·have hn:news=[]:=List.eq_nil_of_length_eq_zero (by rw[hs.len,hz,Nat.zero_mul])
  have hrun:=sn7 w t tx rt e i hu hi (some aq) r.len cap q1 v (by rw[hz,hn]at hsrc;exact hsrc)
  obtain⟨f1,f2⟩:=st7 h hr happ (w':=w) (f:=M.off id) ⟨rfl,rfl,rfl,Nat.le_refl _,fun _ _ _=>rfl⟩ q3 (.inl rfl) h0 q4 (by omega) (fun i o hi ho=>by
   obtain⟨u,-,u1,u2,u3⟩:=olds (n:=[]) i o (by omega) ho
   exact⟨u,u1,u2,by rw[if_pos (by omega)];exact u3⟩) (.inr ⟨rfl,rfl,fun c hc=>by rw[q3]at hc;cases hc;rfl⟩)
  have f3:=con (a':=aq) q3 q4 (by omega) q2 q5
  rw[hz]at f3 ⊢
  exact⟨_,_,_,hrun,f1,f2,f3,Nat.le_refl _,fun _ _ _=>rfl⟩
 ·by_cases hroom:r.len+s.len≤cap
  ·obtain rfl:=q5 (by omega)
   have hfit:M.off id+r.len*(ty e).sz+news.length≤cur.size:=by
    rw[hs.len,Nat.add_assoc,← Nat.add_mul,← q4];exact Nat.add_le_add_left (Nat.mul_le_mul_right _ hroom) _
   obtain⟨e1,e2,e3⟩:=pr7 P q3 (o:=M.off id+r.len*(ty e).sz) hfit hs.one
   have hrun:=run_append_room_src w t tx rt e i hu hi (M.phi id) (M.off id) r.len cap v s.len news hsrc hroom (by rw[hsz];exact e2) (by rw[hsz];exact e3)
   rw[hsz,e1]at hrun
   have hnew:(w.setRow (M.phi id) (spl cur (M.off id+r.len*(ty e).sz) news)).heap[M.phi id]? = some (.cells (spl cur (M.off id+r.len*(ty e).sz) news) e (0,0)):=setRow_heap w _ cur _ e _ q3
   have hsp:(spl cur (M.off id+r.len*(ty e).sz) news).size=cur.size:=ub7 _ _ _ hfit
   obtain⟨f1,f2⟩:=st7 h hr happ (f:=M.off id) (w':=w.setRow (M.phi id) (spl cur (M.off id+r.len*(ty e).sz) news)) ⟨rfl,rfl,rfl,by simp[World.setRow],fun k _ hne=>setRow_other w _ _ _ (fun e=>hne (by rw[e]))⟩ hnew (.inl rfl) h0 (by rw[hsp];exact q4) hroom (fun i o hi ho=>by
    unfold spl
    by_cases hil:i<r.len
    ·obtain⟨u,-,u1,u2,u3⟩:=olds (n:=[]) i o hil ho
     have hlt2:i*(ty e).sz+o<r.len*(ty e).sz:=by
      have:(i+1)*(ty e).sz≤r.len*(ty e).sz:=Nat.mul_le_mul_right _ hil
      rw[Nat.add_mul]at this
      omega
     exact⟨u,by rw[wd7 _ _ _ _ hfit,if_neg (by omega)];exact u1,u2,by rw[if_pos hil];exact u3⟩
    ·obtain⟨u,u1,u4,u5,u2,u3⟩:=mids i o (by omega) hi ho
     refine⟨u, ?_,u2,u3⟩
     rw[wd7 _ _ _ _ hfit,if_pos (by omega),← u1]
     congr 1;omega) (.inl hpos)
   exact⟨_,_,_,hrun,f1,f2,con hnew (by rw[hsp];exact q4) hroom q2 (fun _=>rfl),by simp[World.setRow],fun k _ hne=>setRow_other w _ _ _ (fun e=>hne (by rw[e]))⟩
  ·have hol:((cur.toList.drop (M.off id)).take (r.len*(ty e).sz)).length=r.len*(ty e).sz:=by simp;omega
   have holds:(Builtin.firstCells i.size r.len (.slice (some aq) r.len cap)).run P w.drew = .ok ((cur.toList.drop (M.off id)).take (r.len*(ty e).sz)).toArray w.drew:=by
    rw[hsz]
    refine run_firstCells_some (P:=P) w.drew (ty e).sz r.len aq r.len cap _ hol (fun j u hj=>?_)
    have hjl:j<r.len*(ty e).sz:=by have:=(List.getElem?_eq_some_iff.1 hj).1;rw[hol]at this;exact this
    have hp:0<r.len:=by
     rcases Nat.eq_zero_or_pos r.len with hz | hz
     ·rw[hz,Nat.zero_mul]at hjl;omega
     ·exact hz
    obtain rfl:=q5 (by omega)
    rw[List.getElem?_take_of_lt hjl,List.getElem?_drop]at hj
    rw[addr_add]
    simp only[World.cell?,heap_drew,q3,Option.isSome_none,Bool.false_eq_true,if_false]
    simpa using hj
   have hrun:=run_append_grow_src w t tx rt e i z hu hi hzz (some aq) r.len cap _ holds v s.len news hsrc (by omega) (by omega)
    (growslice_fits (by omega) (by rw[hby];have:=Nat.mul_le_mul hmax hb;omega))
   have hge:=grownCap_ge w (r.len+s.len) cap e
   have hcm:=grownCap_le_maxLen w (r.len+s.len) cap e (by unfold maxLen;omega)
   have hsize:0+grownCap w (r.len+s.len) cap e*(ty e).sz=(((cur.toList.drop (M.off id)).take (r.len*(ty e).sz)++news).toArray++Builtin.zeroCells z.cells (grownCap w (r.len+s.len) cap e-(r.len+s.len))).size:=by
    simp only[Array.size_append,List.size_toArray,List.length_append,size_zeroCells,hzs,hol,hs.len,← Nat.add_mul,Nat.zero_add]
    congr 1;omega
   obtain⟨f1,f2⟩:=st7 h hr happ (f:=0) (w':=w.drew.alloc (.cells (((cur.toList.drop (M.off id)).take (r.len*(ty e).sz)++news).toArray++Builtin.zeroCells z.cells (grownCap w (r.len+s.len) cap e-(r.len+s.len))) e))
    ⟨rfl,rfl,rfl,by simp,fun k hk _=>heap_alloc_old w.drew _ hk⟩ (heap_alloc_new w.drew _) (.inr (Nat.le_refl _)) h0 hsize hge (fun i o hi ho=>by
     rw[Nat.zero_add]
     by_cases hil:i<r.len
     ·obtain⟨u,u1,-,u2,u3⟩:=olds (n:=news) i o hil ho
      refine⟨u, ?_,u2,by rw[if_pos hil];exact u3⟩
      have hlt:=(List.getElem?_eq_some_iff.1 u1).1
      rw[Array.getElem?_append_left (by simpa using hlt),List.getElem?_toArray]
      exact u1
     ·obtain⟨u,u1,u4,u5,u2,u3⟩:=mids i o (by omega) hi ho
      refine⟨u, ?_,u2,u3⟩
      rw[Array.getElem?_append_left (by simp;simp at hol;omega),List.getElem?_toArray,List.getElem?_append_right (by omega),hol]
      exact u1) (.inl hpos)
   exact⟨_,_,_,hrun,f1,f2,con (heap_alloc_new w.drew _) hsize hge hcm (fun _=>rfl),by simp,fun k hk _=>heap_alloc_old w.drew _ hk⟩
theorem ir7 (hT:qb7 P ty) (h:Rel E M H w) (t e rt:TypeId) (hk:(ty t).k = .sl e) (h0:0<(ty e).sz) (hb:(ty e).bytes≤128) {v q:Value}{s:Row}{ad:Addr}{c:Nat}{news:List Value}(hs:ucb7 M H w v s (ty e).sz ad c news)
  {id len:Nat} {r:Row} (hr:aa7 H id = .live false e (ty e).sz r) (hlen:len=r.len) (hq:Con M H w (.h id 0 len) q) (hmax:len+s.len≤1099511627776) (happ:(r.app s).1) :
  ∃M' w' v',(Builtin.append_ #[t,t] rt #[q,v]).run P w = .ok v' w'∧Rel E M' (ca7 H id (.live false e (ty e).sz (r.app s).2)) w'∧Kp M H w M' (ca7 H id (.live false e (ty e).sz (r.app s).2)) w'∧Con M' (ca7 H id (.live false e (ty e).sz (r.app s).2)) w' (.h id 0 (len+s.len)) v'∧(w.heap.size≤w'.heap.size∧∀b,b<w.heap.size→b≠M.phi id→w'.heap[b]? = w.heap[b]?):=by
 obtain⟨hu,hke⟩:P.underlying t=some (.slice e)∧_:=na7 hT hk
 exact lr7 hT h t t e rt hk h0 hb (by rw[hs.v];exact Src.ofSlice w hu ad s.len c news hs.len hs.cell hs.one) ⟨hs.len,hs.one,hs.con⟩ hr hlen hq hmax happ
theorem pn7 (s:ByteArray):(byI s).length=s.size:=by unfold byI;rw[List.length_map];rfl
theorem qab7 {tx:TypeId}(hu:P.underlying tx=some .string) (s:ByteArray):Src P 1 tx (.string s) (Row.ints .u8 (byI s)).len (Go.byteCells s) w∧wsb7 M H w (.ints .u8 (byI s)) 1 (Go.byteCells s):=by
 have hl:(Go.byteCells s).length=s.size:=Go.byteCells_length s
 have hS:=Src.ofString w hu s
 refine⟨by show Src P 1 tx _ (byI s).length _ w;rw[pn7];exact hS,⟨by show _=(byI s).length*1;rw[pn7,hl];omega,hS.one,fun i o hi ho=>?_⟩⟩
 obtain rfl:o=0:=by omega
 have hi':i<s.data.toList.length:=by
  have h1:i<(byI s).length:=hi
  rwa [show (byI s).length=s.data.toList.length by simp[byI]]at h1
 refine⟨.int .u8 ((s.data.toList[i]).toNat:Int),by rw[Nat.mul_one,Nat.add_zero];show (s.data.toList.map _)[i]? = _;rw[List.getElem?_map,List.getElem?_eq_getElem hi'];rfl, ?_⟩
 show vd7 M H w false (.int .u8 ((byI s).getD i 0)) _
 have:(byI s).getD i 0=((s.data.toList[i]).toNat:Int):=by
  unfold byI
  rw[List.getD_eq_getElem?_getD,List.getElem?_map,List.getElem?_eq_getElem hi'];rfl
 rw[this];exact rfl
theorem yw7 (hT:qb7 P ty) (h:Rel E M H w) (t tx e rt:TypeId) (hk:(ty t).k = .sl e) (hx:(ty tx).k = .str) (he:(ty e).k = .i .u8∧(ty e).sz=1∧(ty e).bytes=1) {s:ByteArray}(hn:0<s.size∧s.size≤1099511627776) :
  ∃M' w' v',(Builtin.append_ #[t,tx] rt #[.slice none 0 0,.string s]).run P w = .ok v' w'∧Rel E M' (H++[.live false e 1 (.ints .u8 (byI s))]) w'∧Kp M H w M' (H++[.live false e 1 (.ints .u8 (byI s))]) w'∧Con M' (H++[.live false e 1 (.ints .u8 (byI s))]) w' (.h H.length 0 s.size) v'∧(w.heap.size≤w'.heap.size∧∀b,b<w.heap.size→w'.heap[b]? = w.heap[b]?):=by
 obtain⟨hu,hke⟩:P.underlying t=some (.slice e)∧_:=na7 hT hk
 have hux:P.underlying tx=some .string:=na7 hT hx
 obtain⟨hS,hC⟩:=qab7 (P:=P) (M:=M) (H:=H) (w:=w) hux s
 have hl:(byI s).length=s.size:=pn7 s
 have hS':Src P (ty e).sz tx (.string s) s.size (Go.byteCells s) w:=by rw[he.2.1];exact Src.ofString w hux s
 obtain⟨i,z,hi,hzz,hsz,hby,hzs,hzl,-⟩:=ic7 (M:=M) (σ:=⟨[],H⟩) (w:=w) (P:=P) hT (t:=e) hke
 have hrun:=run_append_grow_src w t tx rt e i z hu hi hzz none 0 0 [] (run_firstCells_none w.drew i.size 0 0 0) (.string s) s.size (Go.byteCells s) (by rw[hsz];exact hS') (by omega) (by omega)
  (growslice_fits (by omega) (by rw[hby,he.2.2];omega))
 simp only[Nat.zero_add,List.nil_append]at hrun
 have hge:=grownCap_ge w s.size 0 e
 have hcm:=grownCap_le_maxLen w s.size 0 e (by unfold maxLen;omega)
 have hsize:grownCap w s.size 0 e*1=((Go.byteCells s).toArray++Builtin.zeroCells z.cells (grownCap w s.size 0 e-s.size)).size:=by
  simp only[Array.size_append,List.size_toArray,Go.byteCells_length,size_zeroCells,hzs,he.2.1];omega
 have hnew:=heap_alloc_new w.drew (.cells ((Go.byteCells s).toArray++Builtin.zeroCells z.cells (grownCap w s.size 0 e-s.size)) e)
 obtain⟨r1,r2⟩:=be7 (r:=.ints .u8 (byI s)) (sz:=1) h (w':=w.drew.alloc (.cells ((Go.byteCells s).toArray++Builtin.zeroCells z.cells (grownCap w s.size 0 e-s.size)) e))
  ⟨rfl,rfl,rfl,by simp,fun k hk _=>heap_alloc_old w.drew _ hk⟩ hnew rfl Nat.one_pos hsize (by show (byI s).length≤_;rw[hl];exact hge) (fun i hi o ho=>by
   have hi:i<(byI s).length:=hi
   obtain⟨u,u1,u2⟩:=hC.con i o hi ho
   refine⟨u, ?_,hC.one u (List.mem_of_getElem? u1),u2⟩
   have hlt:=(List.getElem?_eq_some_iff.1 u1).1
   rw[Array.getElem?_append_left (by simpa using hlt),List.getElem?_toArray]
   exact u1)
 refine⟨_,_,_,hrun,r1,r2, ?_,by simp,fun k hk=>heap_alloc_old w.drew _ hk⟩
 exact dg7 (w:=w) (r:=.ints .u8 (byI s)) (by show s.size=(byI s).length;exact hl.symm) hge hcm hnew hsize
end
end Go.Proofs.YtabadfkikdefeaaGreat.Ab
