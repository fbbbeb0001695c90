/- Texts of the proof, joined: A6, A7, AR. -/
import Derived.Test.YtabadfkikdefeaaGreatR2
set_option linter.all false
set_option maxRecDepth 100000
set_option maxHeartbeats 6400000
namespace Go.Proofs.YtabadfkikdefeaaGreat.Ab
open Go.RowKit
section
variable {P:Program} {ty:Ty} {E:Env} {nt:Nat} {M M':Mp} {H H':List Root} {σ:AS} {a:Act} {w w':World}
theorem ac7.below {g:Option Nat}(h:Below w.heap.size w w'):ac7 g w w':=⟨h.size,fun b hb _=>h.block b hb⟩
theorem av7 (tm:Tm) (g:Bool) (d t:Nat) (v:RV):lk (wb7 tm g (some d) v) t=if d=t then (g,v) else lk tm t:=rfl
theorem gj7 (a:Act) (d t:Nat) (v:Value) (hd:d<a.tmps.size):(a.put (some d) v).tmps.getD t undef=if d=t then v else a.tmps.getD t undef:=by
 simp only[Act.put,Array.getD_eq_getD_getElem?,Array.getElem?_setIfInBounds]
 by_cases e:d=t
 ·subst e;simp[hd]
 ·simp[e]
theorem St.put (h:St E nt M σ a w) (hr:Rel E M' H' w') (hk:Kp M σ.H w M' H' w') {d:Option Nat}(hd:∀t,d=some t→t<nt) {r:RV}{v:Value}(hv:ha7 M' H' w' r v):St E nt M' ⟨wb7 σ.tm true d r,H'⟩ (a.put d v) w':=by
 cases d with
 | none=>exact⟨hr,fun t ht=>hk.R (h.tms t ht),h.off,h.sz,h.df⟩
 | some d =>
  have hd':d<a.tmps.size:=by rw[h.sz];exact hd d rfl
  refine⟨hr,fun t ht=>?_,fun t ht=>?_,by simp[Act.put,h.sz],h.df⟩
  ·show ha7 M' H' w' (lk (wb7 σ.tm true (some d) r) t).2 _
   have ht':(lk (wb7 σ.tm true (some d) r) t).1=true:=ht
   rw[gj7 _ _ _ _ hd',av7]at *
   by_cases e:d=t
   ·rw[if_pos e,if_pos e];exact hv
   ·rw[if_neg e]at ht' ⊢
    rw[if_neg e]
    exact hk.R (h.tms t ht')
  ·have ht':(lk (wb7 σ.tm true (some d) r) t).1=false:=ht
   rw[av7]at ht'
   rw[gj7 _ _ _ _ hd']
   by_cases e:d=t
   ·rw[if_pos e]at ht';cases ht'
   ·rw[if_neg e]at ht' ⊢
    exact h.off t ht'
theorem St.putV (h:St E nt M σ a w) {d:Option Nat}(hd:∀t,d=some t→t<nt) {g:Bool}{r:RV}{v:Value}(hv:g=true→ha7 M σ.H w r v) (hn:g=false→v=undef):St E nt M ⟨wb7 σ.tm g d r,σ.H⟩ (a.put d v) w:=by
 cases g with
 | true=>exact h.put h.rel (Kp.refl _ _ _) hd (hv rfl)
 | false =>
  obtain rfl:=hn rfl
  cases d with
  | none=>exact⟨h.rel,h.tms,h.off,h.sz,h.df⟩
  | some d =>
   have hd':d<a.tmps.size:=by rw[h.sz];exact hd d rfl
   refine⟨h.rel,fun t ht=>?_,fun t ht=>?_,by simp[Act.put,h.sz],h.df⟩
   ·have ht':(lk (wb7 σ.tm false (some d) r) t).1=true:=ht
    show ha7 M σ.H w (lk (wb7 σ.tm false (some d) r) t).2 _
    rw[gj7 _ _ _ _ hd',av7]at *
    by_cases e:d=t
    ·rw[if_pos e]at ht';cases ht'
    ·rw[if_neg e]at ht' ⊢
     rw[if_neg e]
     exact h.tms t ht'
   ·have ht':(lk (wb7 σ.tm false (some d) r) t).1=false:=ht
    rw[av7]at ht'
    rw[gj7 _ _ _ _ hd']
    by_cases e:d=t
    ·rw[if_pos e]
    ·rw[if_neg e]at ht' ⊢
     exact h.off t ht'
theorem jy7:∀(l:List Oper) (j:Nat),ljb7 l j=l[j]?
 | [],_=>rfl
 | _::_,0=>rfl
 | _::l,j+1=>by simp only[ljb7,List.getElem?_cons_succ];exact jy7 l j
theorem bd7 (h:St E nt M σ a w) {ops:Array Oper}{gd:Option (Nat×Bool)}{g:Bool}(hg:guardOf σ.tm ops gd=some g) {o:Oper}(ho:o.guard=gd):Region.wanted o (yielded ops a.tmps)=g:=by
 unfold Region.wanted
 rw[ho]
 unfold guardOf at hg
 split at hg
 ·cases hg;rfl
 ·rename_i j want
  split at hg
  ·rename_i o2 ho2
   rw[jy7,Array.getElem?_toList]at ho2
   split at hg
   ·rename_i d hd
    split at hg
    ·rename_i g2 b hlk
     simp only[Option.some.injEq]at hg
     subst hg
     cases g2 with
     | true =>
      have hc:=h.tms d (by rw[hlk])
      rw[hlk]at hc
      have hv:a.tmps.getD d undef = .bool b:=hc
      have hq:a.tmps[d]? = some (.bool b):=by
       rw[Array.getD_eq_getD_getElem?]at hv
       cases hh:a.tmps[d]? with
       | none=>rw[hh]at hv;simp[undef]at hv
       | some u=>rw[hh]at hv;simpa using hv
      simp only[yielded,ho2,Option.bind_some,hd,hq]
      cases b <;> cases want <;> rfl
     | false =>
      have hv:=h.off d (by rw[hlk])
      have:yielded ops a.tmps j=none:=by
       simp only[yielded,ho2,Option.bind_some,hd]
       rw[Array.getD_eq_getD_getElem?]at hv
       cases hh:a.tmps[d]? with
       | none=>rfl
       | some u =>
             rw[hh]at hv;have hv':u=undef:=by simpa using hv
             subst hv';rfl
      simp[this]
    ·cases hg
   ·cases hg
  ·cases hg
theorem val_ok (hT:qb7 P ty) (h:St E nt M σ a w) {ops:Array Oper}{o:Oper}(hv:isV o.op=true) (hd:∀t,o.dst=some t→t<nt) {K:AS→Prop}{dd:Option Nat}(hw:rr7 ty (guardOf σ.tm ops o.guard) dd σ o K) :
  ∃σ' v,K σ'∧σ'.H=σ.H∧St E nt M σ' (a.put o.dst v) w∧(Region.wanted o (yielded ops a.tmps)=true→∀w',Same M σ.H w w'→(execOp a.eval o).run P w' = .ok (.value v) w')∧(Region.wanted o (yielded ops a.tmps)=false→v=undef):=by
 unfold rr7 at hw
 split at hw
 ·exact hw.elim
 ·rename_i g hg
  obtain⟨h1,-,h2,h3⟩:=hw
  have hwt:=bd7 h hg rfl
  rw[hwt]
  cases g with
  | true =>
   obtain⟨v,v1,v2⟩:=cab7 hT h hv rfl h1 (h2 rfl)
   exact⟨_,v,h3,rfl,h.putV hd (fun _=>v1) (fun e=>by cases e),fun _=>v2,(fun e=>by cases e)⟩
  | false=>exact⟨_,undef,h3,rfl,h.putV hd (fun e=>by cases e) (fun _=>rfl),(fun e=>by cases e),fun _=>rfl⟩
theorem Same.refl:Same M H w w:=fun _ _=>rfl
structure Stp (M:Mp) (σ:AS) (a:Act) (w:World) (M':Mp) (σ':AS) (a':Act) (w':World) (ds:Nat→Prop):Prop where
 len:σ.H.length≤σ'.H.length
 kp:Kp M σ.H w M' σ'.H w'
 tm:∀t,¬ds t→a'.tmps.getD t undef=a.tmps.getD t undef
theorem pb7 (a:Act) (d:Option Nat) (v:Value) (t:Nat) (h:¬d=some t):(a.put d v).tmps.getD t undef=a.tmps.getD t undef:=by
 cases d with
 | none=>rfl
 | some d =>
  have hne:¬d=t:=fun e=>h (by rw[e])
  simp only[Act.put,Array.getD_eq_getD_getElem?,Array.getElem?_setIfInBounds,if_neg hne]
theorem ql7:∀{l:List RV}{vs:List Value}{m:List RV}{us:List Value},ab7 M H w l vs→ab7 M H w m us→ab7 M H w (l++m) (vs++us)
 | [],_,_,_,h,k=>by cases h;exact k
 | x::l,_,_,_,⟨v,r,e,h1,h2⟩,k=>by subst e;exact⟨v,r++_,rfl,h1,ql7 h2 k⟩
theorem gq7:∀(n:Nat) {l:List AV}{vs:List Value},mb7 M H w l vs→mb7 M H w (l.take n) (vs.take n)
 | 0,_,_,_=>rfl
 | _+1,[],_,h=>by cases h;rfl
 | n+1,_::_,_,⟨v,r,e,h1,h2⟩=>by subst e;exact⟨v,_,rfl,h1,gq7 n h2⟩
theorem iq7:∀(n:Nat) {l:List AV}{vs:List Value},mb7 M H w l vs→mb7 M H w (l.drop n) (vs.drop n)
 | 0,_,_,h=>h
 | _+1,[],_,h=>by cases h;rfl
 | n+1,_::_,_,⟨v,r,e,h1,h2⟩=>by subst e;exact iq7 n h2
theorem zk7:∀{l:List AV}{vs:List Value},mb7 M H w l vs→ab7 M H w (l.map .c) vs
 | [],_,h=>h
 | _::_,_,⟨v,r,e,h1,h2⟩=>⟨v,r,e,h1,zk7 h2⟩
theorem lbb7 (h:St E nt M σ a w):∀(l:List Operand),gOk true (rgs σ.rd l)→ab7 M σ.H w (rds σ.rd l) (l.map a.eval)
 | [],_=>rfl
 | x::l,hg=>⟨_,_,rfl,h.rd (hg.1 rfl),lbb7 h l hg.2⟩
theorem ja7 {x:Sem Value}{v:Value}{w w':World}(h:x.run P w = .ok v w'):((do pure (Next.value (← x))):Sem Next).run P w = .ok (.value v) w':=by
 rw[Sem.run_bind,h];rfl
theorem vp7 {x:Sem Unit}{w w':World}(h:x.run P w = .ok () w'):((do x;pure Next.skip):Sem Next).run P w = .ok .skip w':=by
 rw[Sem.run_bind,h];rfl
theorem fj7:∀{l:List AV}{vs:List Value},njL l=true→mb7 M H w l vs→∀v∈vs,v.oneCell'=true
 | [],_,_,h,v,hv=>by cases h;cases hv
 | x::l,_,hn,⟨u,r,e,h1,h2⟩,v,hv=>by
  subst e
  simp only[njL,Bool.and_eq_true]at hn
  rcases List.mem_cons.1 hv with rfl | hv
  ·exact (Con.one (σ:=⟨[],H⟩) hn.1 h1).1
  ·exact fj7 hn.2 h2 v hv
theorem hgb7 (h:Rel E M H w) {l:List AV}{vs:Array Value}{n sz:Nat}(e:TypeId) (hc:mb7 M H w l vs.toList) (hnj:njL l=true) (h0:0<sz) (hn:n*sz=l.length) (hmax:n≤maxLen) :
  ∃M',Rel E M' (H++[.live false e sz (.own (chunk sz n l))]) (w.alloc (.cells vs e))∧Kp M H w M' (H++[.live false e sz (.own (chunk sz n l))]) (w.alloc (.cells vs e)) ∧
   Con M' (H++[.live false e sz (.own (chunk sz n l))]) (w.alloc (.cells vs e)) (.h H.length 0 n) (.slice (some ⟨w.heap.size,0,none⟩) n n):=by
 have hlen:=hc.len
 have hg:w.grownBy (w.alloc (.cells vs e)) none:=⟨rfl,rfl,rfl,by simp,fun k hk _=>Below.heap_alloc _ _ _ hk⟩
 have hsz:n*sz=vs.size:=by simp at hlen;omega
 have hl:(Row.own (chunk sz n l)).len=n:=dl7 _ _ _
 obtain⟨r1,r2⟩:=be7 (r:=.own (chunk sz n l)) h hg (pd7 w _) rfl h0 hsz (by omega) (fun i hi o ho=>by
  have hi':i<n:=by omega
  have hlt:i*sz+o<l.length:=by
   rw[← hn]
   have:(i+1)*sz≤n*sz:=Nat.mul_le_mul_right _ hi'
   rw[Nat.add_mul]at this
   omega
  have hlt2:i*sz+o<vs.size:=by omega
  have hcon:=hc.get (i*sz+o) vs[i*sz+o] (by simp[hlt2])
  refine⟨vs[i*sz+o],by simp[hlt2],fj7 hnj hc _ (by simp), ?_⟩
  show Con M H w (nth ((chunk sz n l).getD i []) o) _
  rw[nh7 _ _ _ _ _ hi' ho];exact hcon)
 refine⟨_,r1,r2, ?_⟩
 exact dg7 (M:=M) (H:=H) (w:=w) (w':=w.alloc (.cells vs e)) (t:=e) (sz:=sz) (n:=n) (cap:=n) (r:=.own (chunk sz n l)) (cur:=vs) hl.symm (Nat.le_refl _) hmax (pd7 w _) hsz
theorem Enters.run {f:FuncId}(h:Enters P f) (args:Array Value) (w:World):(callFunc f args).run P w = .ok (.enter f args) w:=by
 obtain⟨fn,c,h1,h2,h3⟩:=h
 have h4 : fn.name ≠ "runtime.NumGoroutine" := by simpa using h2
 simp[callFunc,h1,h4,h3]
theorem rhb7:∀{l:List AV},bb7 H l→∀{vs:List Value}{rho:Nat→Prop},hc7 rho w (hh7 H l) vs→∀v∈vs,v.oneCell'=true:=by
 intro l hf vs rho hc v hv
 obtain⟨j,hj,rfl⟩:=List.getElem_of_mem hv
 have hl:=hc.len
 rw[aj7]at hl
 exact (hc.get j _ (List.getElem?_eq_getElem hj)).one (lc7 hf j (by omega))
theorem bbb7 {x:RV}{v:Value}(hf:bb7 H (oa7 x)) (h0:(oa7 x).length≠0) (h:ha7 M H w x v):mb7 M H w (oa7 x) v.cells.toList:=by
 refine gf7 (σ:=⟨[],H⟩) ?_ h0 h
 have:∀l:List AV,bb7 H l→njL l=true:=by
  intro l
  induction l with
  | nil=>intro _;rfl
  | cons b l ih =>
   intro hh
   cases b with
   | h=>simp only[njL,AV.nj,Bool.true_and];exact ih hh.2
   | ptr=>exact hh.elim
   | junk=>exact hh.elim
   | ws=>exact hh.elim
   | wu=>exact hh.elim
   | wp=>exact hh.elim
   | int=>simp only[njL,AV.nj,Bool.true_and];exact ih hh
   | bool=>simp only[njL,AV.nj,Bool.true_and];exact ih hh
   | flt=>simp only[njL,AV.nj,Bool.true_and];exact ih hh
   | str=>simp only[njL,AV.nj,Bool.true_and];exact ih hh
   | nilp=>simp only[njL,AV.nj,Bool.true_and];exact ih hh
   | nils=>simp only[njL,AV.nj,Bool.true_and];exact ih hh
   | sl=>simp only[njL,AV.nj,Bool.true_and];exact ih hh
   | rp=>simp only[njL,AV.nj,Bool.true_and];exact ih hh
 exact this _ hf
theorem tt7 {t:TypeId}(h:cib7 P t=true):∃d,P.underlying t=some d∧(match d with | .interface _=>False | _=>True):=by
 unfold cib7 at h
 split at h
 ·cases h
 ·rename_i d n hd
  refine⟨d,hd, ?_⟩
  cases d <;> first | trivial | exact n _ rfl
 ·cases h
theorem xfb7 (t:TypeId) (f:Nat) {p r:RV}{u:Value}(hp:ha7 M σ.H w p u) (h:glb7 P t f p=some r):∃z,ha7 M σ.H w r z∧∀w',(Instr.field t u f).run P w' = .ok z w':=by
 unfold glb7 at h
 split at h
 ·rename_i l
  obtain⟨vs,rfl,hc⟩:=hp
  split at h
  ·rename_i fs hu
   split at h
   ·rename_i fd hf
    have key:∀d,P.underlying fd.type=some d→(match d with | .struct _ | .array _ _=>False | _=>True)→(if fd.offset<l.length then some (RV.c (nth l fd.offset)) else none)=some r→∃z,ha7 M σ.H w r z∧∀w',(Instr.field t (.agg vs.toArray) f).run P w' = .ok z w':=fun d hd hk h=>by
     split at h <;> cases h
     rename_i h0
     have hl:=hc.len
     obtain⟨z,hz⟩:∃z,vs[fd.offset]? = some z:=⟨_,List.getElem?_eq_getElem (by omega)⟩
     refine⟨z,hc.get _ _ hz,fun w'=>?_⟩
     have ha:(isAgg fd.type).run P w' = .ok false w':=by
      simp only[isAgg,Sem.run_bind,run_underlying hd,Result.andThen]
      cases d <;> first | exact hk.elim | rfl
     simp[Instr.field,asAgg,run_underlying hu,hf,part,ha,hz]
    split at h
    ·cases h
    ·cases h
    ·rename_i d n1 n2 hd
     exact key d hd (by cases d <;> first | trivial | exact n1 _ rfl | exact n2 _ _ rfl) h
    ·cases h
   ·cases h
  ·cases h
 ·cases h
theorem bkb7 [Pan] (hT:qb7 P ty) (h:St E nt M σ a w) {pu:Pu}{o:Oper}(hd:∀t,o.dst=some t→t<nt) (hgs:gOk true (bm7 σ.rd o.op)) {K:AS→Prop}(he:eff P ty pu σ.tm σ.rd σ.H o K) {next:Act→World→Prop}{Q:Exit→Act→World→Prop}
  (hn:∀M' σ' a' w',St E nt M' σ' a' w'→(∀g,pu=some g→ac7 (g.map M.phi) w w')→Stp M σ a w M' σ' a' w' (fun t=>o.dst=some t)→K σ'→next a' w') (hP:∀ch w',bl7 E M σ.H w ch w'→Q (.panic ch) a w'):o.wp P a w next Q:=by
 obtain⟨dst,op,type,pos,after,guard⟩:=o
 unfold eff at he
 simp only at he hd
 have hz:∀{t:TypeId},0<(ty t).sz→(match (ty t).k with | .no=>False | _=>True)→(sizeOf t).run P w = .ok (ty t).sz w:=fun _ hk=>rb7 hT hk w
 cases op <;> simp only at he <;> try exact he.elim
 case alloc t =>
  obtain⟨⟨h0,hk⟩,he⟩:=he
  obtain⟨i,z,hi,hzz,hs,-,hzs,hzl,hzc⟩:=ic7 (M:=M) (σ:=σ) (w:=w) (P:=P) hT (t:=t) hk
  have hl:(ty t).zero.length=(ty t).sz:=by have:=gk7 hzl;simp at this;omega
  obtain⟨r1,r2⟩:=zeb7 h.rel (vs:=z.cells) t hzc (fun v hv=>by
   obtain⟨j,hj,rfl⟩:=List.getElem_of_mem hv
   exact ks7 (tk7 hzl j _ (List.getElem?_eq_getElem hj))) (by omega)
  rw[hl]at r1 r2
  unfold Oper.wp
  have hrun:(execOp a.eval ⟨dst,.alloc t,type,pos,after,guard⟩).run P w = .ok (.value (.pointer (some ⟨w.heap.size,0,none⟩))) (w.alloc (.cells z.cells t)):=by
   refine ja7 (x:=Instr.alloc t true (.tuple #[])) ?_
   simp[Instr.alloc,zeroValue,typeInfo,hi,hzz,newVar,newRow]
  rw[hrun]
  exact hn _ _ _ _ (h.put (r:=.c (.ptr σ.H.length 1 0 0)) r1 r2 hd (zy7 (w':=w))) (fun _ _=>ac7.below ((Below.refl _ _).alloc (Nat.le_refl _) _)) ⟨by simp,r2,pb7 _ _ _⟩ he
 case box t x =>
  obtain⟨⟨h1,h0,hnj⟩,he⟩:=he
  simp only[bm7,gOk]at hgs
  have hx:=gf7 hnj (by omega) (h.rd (hgs.1 trivial))
  obtain⟨r1,r2⟩:=zeb7 h.rel (vs:=(a.eval x).cells) t hx (fj7 hnj hx) (by omega)
  rw[h1]at r1 r2
  unfold Oper.wp
  have hrun:(execOp a.eval ⟨dst,.box t x,type,pos,after,guard⟩).run P w = .ok (.value (.pointer (some ⟨w.heap.size,0,none⟩))) (w.alloc (.cells (a.eval x).cells t)):=by
   refine ja7 (x:=Instr.box t (a.eval x)) ?_
   simp[Instr.box,newVar,newRow]
  rw[hrun]
  exact hn _ _ _ _ (h.put (r:=.c (.ptr σ.H.length 1 0 0)) r1 r2 hd (zy7 (w':=w))) (fun _ _=>ac7.below ((Below.refl _ _).alloc (Nat.le_refl _) _)) ⟨by simp,r2,pb7 _ _ _⟩ he
 case buildSlice t n ps =>
  split at he
  ·rename_i e hk
   split at he
   ·obtain⟨h1,h2,h3,⟨h4,h5⟩,he⟩:=he
    obtain⟨hu,hke⟩:P.underlying t=some (.slice e)∧_:=na7 hT hk
    obtain⟨out,o1,o2,o3⟩:=pe7 hT h t e hk n ps hgs h1 h4 h5
    have hlen:=o1.len
    obtain⟨M',r1,r2,r3⟩:=bmb7 (k:=(ty e).k) (n:=n) (sz:=(ty e).sz) h.rel e o1 h2 h3 h4 (by simp at hlen;omega) (by unfold maxLen;have:=Nat.le_mul_of_pos_right n h4;omega)
    unfold Oper.wp
    rw[show (execOp a.eval ⟨dst,.buildSlice t n ps,type,pos,after,guard⟩).run P w=_ from ja7 (o3 w)]
    exact hn _ _ _ _ (h.put (r:=.c (.h σ.H.length 0 n)) r1 r2 hd r3) (fun _ _=>ac7.below ((Below.refl _ _).alloc (Nat.le_refl _) _)) ⟨by simp[dd7],r2,pb7 _ _ _⟩ he
   ·obtain⟨h1,h2,⟨h4,h5⟩,he⟩:=he
    obtain⟨out,o1,o2,o3⟩:=pe7 hT h t e hk n ps hgs h1 h4 h5
    have hlen:=o1.len
    obtain⟨M',r1,r2,r3⟩:=hgb7 (n:=n) (sz:=(ty e).sz) h.rel e o1 h2 h4 (by simp at hlen;omega) (by unfold maxLen;have:=Nat.le_mul_of_pos_right n h4;omega)
    unfold Oper.wp
    rw[show (execOp a.eval ⟨dst,.buildSlice t n ps,type,pos,after,guard⟩).run P w=_ from ja7 (o3 w)]
    exact hn _ _ _ _ (h.put (r:=.c (.h σ.H.length 0 n)) r1 r2 hd r3) (fun _ _=>ac7.below ((Below.refl _ _).alloc (Nat.le_refl _) _)) ⟨by simp,r2,pb7 _ _ _⟩ he
   ·rename_i ck0 cks hw
    obtain⟨h1,⟨rfl,h2,h4,h5,h6⟩,he⟩:=he
    obtain⟨out,o1,o2,o3⟩:=pe7 hT h t e hk 1 ps hgs h1 h4 (by omega)
    obtain⟨M',r1,r2,r3⟩:=mx7 h.rel e o1 h2 (by omega)
    unfold Oper.wp
    rw[show (execOp a.eval ⟨dst,.buildSlice t 1 ps,type,pos,after,guard⟩).run P w=_ from ja7 (o3 w)]
    exact hn _ _ _ _ (h.put (r:=.c (.ws e (ck0::cks) 1)) r1 r2 hd r3) (fun _ _=>ac7.below ((Below.refl _ _).alloc (Nat.le_refl _) _)) ⟨Nat.le_refl _,r2,pb7 _ _ _⟩ he
  ·exact he.elim
 case makeInterface t x =>
  simp only[bm7,gOk]at hgs
  obtain⟨ht,he⟩:=he
  obtain⟨d,hd2,hk⟩:=tt7 ht
  unfold Oper.wp
  have hrun:(execOp a.eval ⟨dst,.makeInterface t x,type,pos,after,guard⟩).run P w = .ok (.value (.iface t (a.eval x))) w:=by
   refine ja7 (x:=Instr.makeInterface t (a.eval x)) ?_
   simp only[Instr.makeInterface,Sem.run_bind,run_underlying hd2,Result.andThen]
   cases d <;> first | exact hk.elim | rfl
  rw[hrun]
  exact hn M _ _ _ (h.putV (r:=.ifc t (σ.rd x).2) hd (fun _=>⟨_,rfl,h.rd (hgs.1 trivial)⟩) (fun e=>by cases e)) (fun _ _=>⟨Nat.le_refl _,fun _ _ _=>rfl⟩) ⟨Nat.le_refl _,Kp.refl _ _ _,pb7 _ _ _⟩ he
 case panic x =>
  simp only[bm7,gOk]at hgs
  have hx:=h.rd (hgs.1 trivial)
  unfold Oper.wp
  unfold gob7 at he
  split at he
  ·rename_i t y hr
   rw[hr]at hx
   have hx2:=hx
   obtain⟨u,hu,-⟩:=hx
   have hrun:(execOp a.eval ⟨dst,.panic x,type,pos,after,guard⟩).run P w = .halt (.panic (.iface t u)) w:=by
    have h1:(execOp a.eval ⟨dst,.panic x,type,pos,after,guard⟩).run P w=((do pure (Next.value (← Instr.panic (a.eval x)))):Sem Next).run P w:=rfl
    rw[h1,hu];rfl
   rw[hrun]
   rw[hu]at hx2
   exact hP _ _ ⟨M,σ.H,_,_,rfl,h.rel,Kp.refl _ _ _,Nat.le_refl _,hx2,he⟩
  ·exact he.elim
 case field t x f =>
  simp only[bm7,gOk]at hgs
  unfold qob7 at he
  split at he
  ·rename_i r hr
   obtain⟨z,h1,h2⟩:=xfb7 t f (h.rd (hgs.1 trivial)) hr
   unfold Oper.wp
   rw[show (execOp a.eval ⟨dst,.field t x f,type,pos,after,guard⟩).run P w=_ from ja7 (x:=Instr.field t (a.eval x) f) (h2 w)]
   exact hn M _ _ _ (h.putV hd (fun _=>h1) (fun e=>by cases e)) (fun _ _=>⟨Nat.le_refl _,fun _ _ _=>rfl⟩) ⟨Nat.le_refl _,Kp.refl _ _ _,pb7 _ _ _⟩ he
  ·exact he.elim
 case store t p v =>
  obtain⟨hpu,he⟩:=he
  simp only[bm7,gOk]at hgs
  have hp:=h.rd (hgs.1 trivial)
  have hv:=h.rd (hgs.2.1 trivial)
  unfold vjb7 at he
  split at he
  ·rename_i t' ck o hpe
   rw[hpe]at hp
   obtain⟨⟨h1,h0,hk,h2,h3⟩,he⟩:=he
   have hc:=gf7 (dr7 h3) (by omega) hv
   rw[← h1]at h2 h3
   obtain⟨ad,w',q1,q2,q3,q4⟩:=hq7 (P:=P) h.rel hp hc h3 h2
   unfold Oper.wp
   have hlen:(a.eval v).cells.size=(ty t).sz:=by have:=hc.len;rw[← h1];simpa using this
   have hrun:(execOp a.eval ⟨dst,.store t p v,type,pos,after,guard⟩).run P w = .ok .skip w':=by
    refine vp7 (x:=Instr.storeAt t (a.eval p) (a.eval v)) ?_
    have hzt:=rb7 hT hk w
    rw[q1]
    simp[Instr.storeAt,Instr.sureAddr,storeVar,hzt,hlen,q2]
   rw[hrun]
   exact hn _ _ _ _ (h.put (r:=.c .junk) q3 q4 hd trivial) (fun g e=>by rw[e,hpe]at hpu;cases g <;> exact hpu.elim) ⟨Nat.le_refl _,q4,pb7 _ _ _⟩ he
  rename_i hnw
  unfold mv7 at he
  split at he
  ·rename_i id n i o hpe
   rw[hpe]at hp
   have hOld:∀{w':World} (g:Option Nat),pu=some g→(w.heap.size≤w'.heap.size∧∀b,b<w.heap.size→b≠M.phi id→w'.heap[b]? = w.heap[b]?)→ac7 (g.map M.phi) w w':=fun {w'} g e ho=>by
    rw[e,hpe]at hpu
    cases g with
    | none=>exact hpu.elim
    | some k =>
     obtain rfl:id=k:=hpu
     exact⟨ho.1,fun b hb hne=>ho.2 b hb fun e=>hne (by rw[e];rfl)⟩
   split at he
   ·rename_i fz t2 sz r hr
    obtain⟨rfl,⟨h1,h2,h3,h4,h5,hk⟩,he⟩:=he
    have hpv:=(hp.2 _ _ _ _ hr).2 h2
    have hlen:∀{l:List AV},mb7 M σ.H w l (a.eval v).cells.toList→(a.eval v).cells.size=l.length:=fun hc=>by have:=hc.len;simpa using this
    have hsto:∀w',(storeCells ⟨M.phi id,M.off id+i*sz+o,none⟩ (a.eval v).cells.toList 0).run P w = .ok () w'→(a.eval v).cells.size=(ty t).sz→(execOp a.eval ⟨dst,.store t p v,type,pos,after,guard⟩).run P w = .ok .skip w':=fun w' h1 h2=>by
     refine vp7 (x:=Instr.storeAt t (a.eval p) (a.eval v)) ?_
     have hzt:=hz (t:=t) (by omega) hk
     rw[hpv]
     simp[Instr.storeAt,Instr.sureAddr,storeVar,hzt,h2,h1]
    split at he
    ·rename_i hb
     obtain⟨hnj,he⟩:=he
     have hc:=gf7 hnj (by omega) hv
     have hput:(r.put sz i o (oa7 (σ.rd v).2)).1:=by
      cases r with
      | box=>trivial
      | own=>trivial
      | _=>cases hb
     obtain⟨w',r1,r2,r3,r4⟩:=ju7 (P:=P) h.rel hr (i:=i) (o:=o) (by omega) (by omega) (fj7 hnj hc) hc.len (fun j u hj=>by unfold vd7;rw[if_pos hb];exact hc.get j u hj) hput
     unfold Oper.wp
     rw[hsto w' r3 (by rw[hlen hc];exact h1)]
     exact hn _ _ _ _ (h.put (r:=.c .junk) r1 r2 hd trivial) (fun g e=>hOld g e r4) ⟨by simp[da7],r2,pb7 _ _ _⟩ he
    ·rename_i hb
     obtain⟨hf,hr2,hput,he⟩:=he
     obtain⟨M1,e1,e2,q1,q2,q3⟩:=mh7 _ h.rel hf
     have hc:=bbb7 hf (by omega) hv
     have hc0:=q3 _ hc
     obtain⟨w',r1,r2,r3,r4⟩:=ju7 (P:=P) q1 hr2 (i:=i) (o:=o) (cs:=hh7 σ.H (oa7 (σ.rd v).2)) (vs:=(a.eval v).cells.toList) (by omega) (by rw[aj7];omega) (rhb7 hf hc0) hc0.len (fun j u hj=>by unfold vd7;rw[if_neg hb];exact hc0.get j u hj) hput
     unfold Oper.wp
     rw[e1.1,e1.2]at r3
     rw[hsto w' r3 (by rw[hlen hc];exact h1)]
     exact hn _ _ _ _ (h.put (r:=.c .junk) r1 (q2.trans r2) hd trivial) (fun g e=>hOld g e (by rw[e1.1]at r4;exact r4)) ⟨by simp[da7,dd7],q2.trans r2,pb7 _ _ _⟩ he
   ·exact he.elim
  ·exact he.elim
 case makeSlice t x y =>
  simp only[bm7,gOk]at hgs
  have hx:=h.rd (hgs.1 trivial)
  have hy:=h.rd (hgs.2.1 trivial)
  unfold obb7 at he
  split at he
  ·rename_i e hk
   split at he
   ·rename_i k1 n k2 c hx1 hy1
    rw[hx1]at hx
    rw[hy1]at hy
    obtain⟨⟨h1,h2,rfl,h3,h4,h5⟩,he⟩:=he
    obtain⟨M',w',v,r0,rb,r1,r2,r3⟩:=xgb7 hT h.rel t e hk k1 k2 c h1 h2 h3 h4 h5
    unfold Oper.wp
    have hrun:(execOp a.eval ⟨dst,.makeSlice t x y,type,pos,after,guard⟩).run P w = .ok (.value v) w':=by
     refine ja7 (x:=Instr.makeSlice t (a.eval x) (a.eval y)) ?_
     rw[show a.eval x = .int k1 c from hx,show a.eval y = .int k2 c from hy]
     exact r0
    rw[hrun]
    exact hn _ _ _ _ (h.put (r:=.c (.h σ.H.length 0 c.toNat)) r1 r2 hd r3) (fun _ _=>ac7.below rb) ⟨by simp,r2,pb7 _ _ _⟩ he
   ·exact he.elim
  ·exact he.elim
 case call c =>
  obtain⟨callee,args,ats⟩:=c
  simp only at he
  cases callee with
  | invoke r m=>exact he.elim
  | value f =>
   simp only[bm7,gOk]at hgs
   simp only at he
   split at he
   ·rename_i f' caps nb hf
    have hfv:=h.rd (hgs.1 trivial)
    rw[hf]at hfv
    obtain⟨cs,hfe,hcs⟩:=hfv
    obtain⟨henter,hcall⟩:=he
    have hargs:=lbb7 h args.toList hgs.2
    have hc:=hcall E M w _ h.rel (ql7 (zk7 (gq7 nb hcs)) (ql7 hargs (zk7 (iq7 nb hcs))))
    unfold Oper.wp
    have hrun:(execOp a.eval ⟨dst,.call ⟨.value f,args,ats⟩,type,pos,after,guard⟩).run P w = .ok (.enter f' (cs.take nb++(args.toList.map a.eval++cs.drop nb)).toArray) w:=by
     have e1:(cs.take nb).toArray++args.map a.eval++(cs.drop nb).toArray=(cs.take nb++(args.toList.map a.eval++cs.drop nb)).toArray:=by
      apply Array.toList_inj.1;simp
     rw[← e1];simp only[execOp,resolve,hfe,Deferred.ofValue,invoke]
     simp[henter.run]
    rw[hrun,Oper.upon_enter]
    refine hc.mono ?_
    rintro e w' (⟨M',H',r,v,rfl,q1,q2,q3,q4,q5,q6⟩ | ⟨ch,rfl,hp⟩)
    ·exact hn _ _ _ _ (h.put q1 q2 hd q3) q4 ⟨q5,q2,pb7 _ _ _⟩ q6
    ·exact hP _ _ hp
   ·exact he.elim
  | builtin b =>
   cases b <;> simp only at he <;> try exact he.elim
   case append =>
    split at he
    ·rename_i s x hsx
     obtain⟨hpu,he⟩:=he
     have ap_old:∀{w':World} {id st len:Nat} (g:Option Nat),pu=some g→(σ.rd s).2 = .c (.h id st len)→(w.heap.size≤w'.heap.size∧∀b,b<w.heap.size→b≠M.phi id→w'.heap[b]? = w.heap[b]?)→ac7 (g.map M.phi) w w':=fun {w' id st len} g e hse ho=>by
      rw[e,hse]at hpu
      cases hb:nwk ty (ats.getD 0 0) with
      | false=>rw[hb]at hpu;exact hpu.elim
      | true =>
       rw[hb]at hpu
       cases g with
       | none=>exact hpu.elim
       | some k =>
        obtain rfl:id=k:=hpu
        exact⟨ho.1,fun b hb hne=>ho.2 b hb fun e=>hne (by rw[e];rfl)⟩
     obtain⟨args⟩:=args
     simp only at hsx
     subst hsx
     obtain⟨ats⟩:=ats
     simp only[bm7,rgs,gOk]at hgs
     have hs:=h.rd (hgs.1 trivial)
     have hx:=h.rd (hgs.2.1 trivial)
     rcases wz7 he with ⟨b,hb,⟨hats,htx⟩,he⟩ | ⟨hats,he⟩
     ·rw[hb]at hx
      have hxv:a.eval x = .string b:=hx
      obtain⟨t,tx,rfl⟩:∃t tx,ats=[t,tx]:=⟨_,_,hats⟩
      have htt:(List.toArray [t,tx]).getD 0 0=t:=rfl
      have htt2:(List.toArray [t,tx]).getD 1 0=tx:=rfl
      rw[htt]at he
      rw[htt2]at htx
      have hex:∀{v:Value} {w':World},(Builtin.append_ #[t,tx] type #[a.eval s,a.eval x]).run P w = .ok v w'→(execOp a.eval ⟨dst,.call ⟨.builtin .append,[s,x].toArray,[t,tx].toArray⟩,type,pos,after,guard⟩).run P w = .ok (.value v) w':=fun {v w'} h1=>by
       have:=ja7 (x:=Builtin.append_ #[t,tx] type #[a.eval s,a.eval x]) h1
       simpa[execOp,resolve,invoke,builtin]using this
      unfold inb7 at he
      split at he
      ·rename_i e hk
       obtain⟨hke,he⟩:=he
       have hux:P.underlying tx=some .string:=na7 hT htx
       split at he
       ·rename_i hs1
        rw[hs1]at hs
        have hsv:a.eval s = .slice none 0 0:=hs
        obtain⟨h1,he⟩:=he
        obtain⟨M',w',v',r0,r1,r2,r3,r4⟩:=yw7 hT h.rel t tx e type hk htx hke h1
        unfold Oper.wp
        rw[hex (by rw[hsv,hxv];exact r0)]
        exact hn _ _ _ _ (h.put (r:=.c (.h _ 0 _)) r1 r2 hd r3) (fun _ _=>⟨r4.1,fun b hb _=>r4.2 b hb⟩) ⟨by simp,r2,pb7 _ _ _⟩ he
       ·rename_i id st len hs1
        rw[hs1]at hs
        split at he
        ·rename_i fz t2 sz r hr
         obtain⟨⟨rfl,rfl,h1,rfl,rfl,h2⟩,happ,he⟩:=he
         obtain⟨hS,hC⟩:=qab7 (P:=P) (M:=M) (H:=σ.H) (w:=w) hux b
         have hlb:(Row.ints .u8 (byI b)).len=b.size:=pn7 b
         obtain⟨M',w',v',r0,r1,r2,r3,r4⟩:=lr7 hT h.rel t tx t2 type hk (by rw[hke.2.1];exact Nat.one_pos) (by rw[hke.2.2];decide) (by rw[hke.2.1];exact hS) (by rw[hke.2.1];exact hC) (by rw[hke.2.1];exact hr) h1 hs (by rw[hlb];exact h2) happ
         rw[hke.2.1,hlb]at *
         unfold Oper.wp
         rw[hex (by rw[hxv];exact r0)]
         exact hn _ _ _ _ (h.put (r:=.c (.h _ 0 _)) r1 r2 hd r3) (fun g e=>ap_old g e hs1 r4) ⟨by simp[da7],r2,pb7 _ _ _⟩ he
        ·exact he.elim
       ·exact he.elim
      ·exact he.elim
     obtain⟨t,rfl⟩:∃t,ats=[t,t]:=⟨_,hats⟩
     have htt:(List.toArray [t,t]).getD 0 0=t:=rfl
     rw[htt]at he
     have hex:∀{v:Value} {w':World},(Builtin.append_ #[t,t] type #[a.eval s,a.eval x]).run P w = .ok v w'→(execOp a.eval ⟨dst,.call ⟨.builtin .append,[s,x].toArray,[t,t].toArray⟩,type,pos,after,guard⟩).run P w = .ok (.value v) w':=fun {v w'} h1=>by
      have:=ja7 (x:=Builtin.append_ #[t,t] type #[a.eval s,a.eval x]) h1
      simpa[execOp,resolve,invoke,builtin]using this
     have hwk:(∃e ck,((ty t).k = .sl e∧nwk ty t=false)∧appW ty e ck (σ.rd s).2 (σ.rd x).2 (fun r=>K ⟨wb7 σ.tm true dst r,σ.H⟩))∨uw7 ty (ty t).k σ.H (σ.rd s).2 (σ.rd x).2 (fun r H=>K ⟨wb7 σ.tm true dst r,H⟩):=by
      unfold pcb7 at he
      split at he
      ·rename_i e hk
       split at he
       ·exact .inr he
       ·exact .inr he
       ·rename_i c cs hc;exact .inl ⟨e,c::cs,⟨hk,by unfold nwk;simp only[hk,hc]⟩,he⟩
      ·exact he.elim
     clear he
     rcases hwk with ⟨e,ck,⟨hk,hnw⟩,he⟩ | he
     ·unfold appW at he
      split at he
      ·rename_i t' ck' m hxe
       rw[hxe]at hx
       obtain⟨⟨⟨rfl,rfl,k1,k2⟩,k3,k4,k5,k6⟩,he⟩:=he
       have fin:∀(n:Nat) (r:RV),WSl M w t' ck' n (a.eval s)→n+m≤1099511627776→(∀M' w' v',WSl M' w' t' ck' (n+m) v'→ha7 M' σ.H w' r v')→K ⟨wb7 σ.tm true dst r,σ.H⟩→Oper.wp P ⟨dst,.call ⟨.builtin .append,[s,x].toArray,[t,t].toArray⟩,type,pos,after,guard⟩ a w next Q:=fun n r hw hm hr hK=>by
        obtain⟨M',w',v',r0,r1,r2,r3⟩:=cx7 hT h.rel t t' type hk k3 k4 k5 k6 hw hx k1 hm
        unfold Oper.wp
        rw[hex r0]
        exact hn _ _ _ _ (h.put (r:=r) r1 r2 hd (hr _ _ _ r3)) (fun g e=>by have hpu:wAp pu (nwk ty t) (σ.rd s).2:=hpu;rw[e,hnw]at hpu;exact hpu.elim) ⟨Nat.le_refl _,r2,pb7 _ _ _⟩ hK
       split at he
       ·rename_i hse
        rw[hse]at hs
        have hs:a.eval s = .slice none 0 0:=hs
        exact fin 0 (.c (.ws _ _ m)) (by rw[hs];exact WSl.nil _ _) (by omega) (fun M' w' v' h=>by rw[Nat.zero_add]at h;exact h) he
       ·rename_i t2 ck2 n hse
        rw[hse]at hs
        obtain⟨⟨rfl,rfl,j1⟩,he⟩:=he
        exact fin n (.c (.ws _ _ (n+m))) hs j1 (fun M' w' v' h=>h) he
       ·rename_i t2 ck2 b hse
        rw[hse]at hs
        obtain⟨⟨rfl,rfl,j1⟩,he⟩:=he
        obtain⟨n,hnb,hs⟩:=hs
        exact fin n (.c (.wu _ _ (b+m))) hs (by omega) (fun M' w' v' h=>⟨n+m,by omega,h⟩) he
       ·exact he.elim
      ·exact he.elim
     unfold uw7 at he
     split at he
     ·rename_i e hk
      obtain⟨s1,s2,s3,s4,he⟩:=he
      obtain⟨ad,c,news,hsrc⟩:=src_ok h.rel hx s1
      rw[s2]at hsrc
      have hbx:(ta7 σ.H (σ.rd x).2).2.1.one=false:=by
       unfold ta7 at s1 ⊢
       split at s1
       ·exact (jr7 _ _ _).2.1
       ·split at s1
        ·exact (zo7 s1.2 _).1.1
        ·exact s1.elim
       ·exact s1.elim
      split at he
      ·rename_i hs1
       rw[hs1]at hs
       have hsv:a.eval s = .slice none 0 0:=hs
       obtain⟨h1,he⟩:=he
       obtain⟨M',w',v',r0,r1,r2,r3,r4⟩:=ty7 hT h.rel t e type hk s3 s4 hsrc hbx h1
       unfold Oper.wp
       rw[hex (by rw[hsv];exact r0)]
       exact hn _ _ _ _ (h.put (r:=.c (.h _ 0 _)) r1 r2 hd r3) (fun _ _=>⟨r4.1,fun b hb _=>r4.2 b hb⟩) ⟨by simp,r2,pb7 _ _ _⟩ he
      ·rename_i id st len hs1
       rw[hs1]at hs
       split at he
       ·rename_i fz t2 sz r hr
        obtain⟨⟨rfl,rfl,h1,rfl,rfl,h2⟩,happ,he⟩:=he
        obtain⟨M',w',v',r0,r1,r2,r3,r4⟩:=ir7 hT h.rel t t2 type hk s3 s4 hsrc hr h1 hs h2 happ
        unfold Oper.wp
        rw[hex r0]
        exact hn _ _ _ _ (h.put (r:=.c (.h _ 0 _)) r1 r2 hd r3) (fun g e=>ap_old g e hs1 r4) ⟨by simp[da7],r2,pb7 _ _ _⟩ he
       ·exact he.elim
      ·exact he.elim
     ·exact he.elim
    ·exact he.elim
end
section
variable {P:Program} {ty:Ty} {E:Env} {nt:Nat} {M M':Mp} {σ σ':AS} {a a':Act} {w w':World}
theorem Stp.refl (M:Mp) (σ:AS) (a:Act) (w:World) (ds:Nat→Prop):Stp M σ a w M σ a w ds:=⟨Nat.le_refl _,Kp.refl _ _ _,fun _ _=>rfl⟩
theorem Stp.trans {ds ds1 ds2:Nat→Prop}{M2:Mp}{σ2:AS}{a2:Act}{w2:World}(h:Stp M σ a w M' σ' a' w' ds1) (k:Stp M' σ' a' w' M2 σ2 a2 w2 ds2) (h1:∀t,ds1 t→ds t) (h2:∀t,ds2 t→ds t):Stp M σ a w M2 σ2 a2 w2 ds :=
 ⟨Nat.le_trans h.len k.len,h.kp.trans k.kp,fun t ht=>(k.tm t (fun h=>ht (h2 t h))).trans (h.tm t (fun h=>ht (h1 t h)))⟩
theorem Stp.mono {ds ds1:Nat→Prop}(h:Stp M σ a w M' σ' a' w' ds1) (h1:∀t,ds1 t→ds t):Stp M σ a w M' σ' a' w' ds:=⟨h.len,h.kp,fun t ht=>h.tm t fun h=>ht (h1 t h)⟩
def we7 (l:List Oper) (t:Nat):Prop:=∃o∈l,o.dst=some t
theorem sf7 {o:Oper}{v:Value}(h:σ'.H=σ.H):Stp M σ a w M σ' (a.put o.dst v) w (fun t=>o.dst=some t) :=
 ⟨by rw[h];exact Nat.le_refl _,by rw[h];exact Kp.refl _ _ _,pb7 _ _ _⟩
def After (E:Env) (nt:Nat) (M:Mp) (σ:AS) (a:Act) (w:World) (ds:Nat→Prop) (K:AS→Prop) (a':Act) (w':World):Prop:=∃M' σ',St E nt M' σ' a' w'∧Stp M σ a w M' σ' a' w' ds∧K σ'
theorem After.step {ds ds1:Nat→Prop}{K:AS→Prop}{a2:Act}{w2:World}(h:Stp M σ a w M' σ' a' w' ds1) (k:After E nt M' σ' a' w' ds K a2 w2) (h1:∀t,ds1 t→ds t):After E nt M σ a w ds K a2 w2:=by
 obtain⟨M2,σ2,q1,q2,q3⟩:=k
 exact⟨M2,σ2,q1,h.trans q2 h1 (fun _ h=>h),q3⟩
theorem ac7.refl (g:Option Nat) (w:World):ac7 g w w:=⟨Nat.le_refl _,fun _ _ _=>rfl⟩
theorem ac7.step {g:Option Nat}{w w' w'':World}(h:ac7 g w w') (k:ac7 g w' w''):ac7 g w w'':=⟨Nat.le_trans h.1 k.1,fun b hb hne=>(k.2 b (Nat.lt_of_lt_of_le hb h.1) hne).trans (h.2 b hb hne)⟩
instance (g:Option Nat) (w:World):Nonempty (At (ac7 g w)):=⟨⟨w,ac7.refl g w⟩⟩
theorem bl7.step [Pan] {H H1:List Root}{w1:World}{ch:List PanicEntry}(h1:Kp M H w M' H1 w1) (h2:H.length≤H1.length) (h:bl7 E M' H1 w1 ch w'):bl7 E M H w ch w':=by
 obtain⟨M2,H2,r,v,e,k1,k2,k3,k4,k5⟩:=h
 exact⟨M2,H2,r,v,e,k1,h1.trans k2,Nat.le_trans h2 k3,k4,k5⟩
theorem pa7 {H:List Root}{ch:List PanicEntry}(h:bl7 E M H w ch w'):False:=by
 obtain⟨M2,H2,r,v,e,k1,k2,k3,k4,k5⟩:=h
 exact k5
theorem ep7 [Pan] (hT:qb7 P ty) (h:St E nt M σ a w) {pu:Pu}{dd:Option Nat}{ops:Array Oper}{o:Oper}(hd:∀t,o.dst=some t→t<nt) {K:AS→Prop}(hw:mk7 P ty pu dd ops σ o K) {next:Act→World→Prop}{Q:Exit→Act→World→Prop}
  (hn:∀M' σ' a' w',St E nt M' σ' a' w'→(∀g,pu=some g→ac7 (g.map M.phi) w w')→Stp M σ a w M' σ' a' w' (fun t=>o.dst=some t)→K σ'→next a' w') (hP:∀ch w',bl7 E M σ.H w ch w'→Q (.panic ch) a w'):if Region.wanted o (yielded ops a.tmps) then o.wp P a w next Q else next (a.put o.dst undef) w:=by
 unfold mk7 at hw
 split at hw
 ·rename_i hv
  obtain⟨σ',v,k1,k2,k3,k4,k5⟩:=val_ok hT h hv hd hw
  have hnx:=hn M σ' (a.put o.dst v) w k3 (fun _ _=>ac7.refl _ _) (sf7 k2) k1
  cases hwt:Region.wanted o (yielded ops a.tmps) with
  | true =>
   rw[if_pos rfl]
   unfold Oper.wp
   rw[k4 hwt w Same.refl]
   exact hnx
  | false =>
   rw[if_neg (by simp)]
   rw[k5 hwt]at hnx
   exact hnx
 ·have hw:=hw.2
  unfold imb7 at hw
  split at hw
  ·exact hw.elim
  ·rename_i g hg
   obtain⟨h2,h3,h4⟩:=hw
   rw[bd7 h hg rfl]
   cases g with
   | true=>exact bkb7 hT h hd h2 (h3 rfl) hn hP
   | false=>exact hn M _ (a.put o.dst undef) w (h.putV hd (fun e=>by cases e) (fun _=>rfl)) (fun _ _=>ac7.refl _ _) (sf7 rfl) (h4 rfl)
theorem fz7 [Pan] (hT:qb7 P ty) {nf:Nat}{dd:Option Nat}{ops:Array Oper}{K:AS→Prop}{Q:Exit→Act→World→Prop}:∀(l:List Oper) {M:Mp}{σ:AS}{a:Act}{w:World},St E nt M σ a w→(∀o∈l,∀t,o.dst=some t→t<nt)→xl7 P ty nf dd ops l K σ →
  (∀a' w',After E nt M σ a w (we7 l) K a' w'→Q .normal a' w')→(∀a' ch w',a'.defers=E.df→bl7 E M σ.H w ch w'→Q (.panic ch) a' w')→wpList P ops Q l a w
 | [],M,σ,a,w,h,_,hw,hQ,_=>hQ a w ⟨M,σ,h,Stp.refl _ _ _ _ _,hw⟩
 | o::l,M,σ,a,w,h,hd,hw,hQ,hP=>by
  have:=ep7 (Q:=Q) (next:=wpList P ops Q l) hT h (hd o (List.mem_cons_self ..)) hw (fun M' σ' a' w' q1 _ q3 q4 =>
   fz7 hT l q1 (fun o ho=>hd o (List.mem_cons_of_mem _ ho)) q4 (fun a2 w2 hA=>hQ a2 w2 (by
    obtain⟨M2,σ2,r1,r2,r3⟩:=hA
    exact⟨M2,σ2,r1,q3.trans r2 (fun t ht=>⟨o,List.mem_cons_self ..,ht⟩) (fun t ⟨o2,ho,ht⟩=>⟨o2,List.mem_cons_of_mem _ ho,ht⟩),r3⟩)) (fun a2 ch w2 hd hp=>hP a2 ch w2 hd (hp.step q3.kp q3.len)))
   (fun ch w'=>hP a ch w' h.df)
  unfold wpList
  split
  ·rename_i hwt;rw[if_pos hwt]at this;exact .inl this
  ·rename_i hwt;rw[if_neg hwt]at this;exact this
end
section draw
variable {P:Program} {ops:Array Oper} {Q:Exit→Act→World→Prop} {md:Region.Mode}
def hg7 (P:Program) (ops:Array Oper) (Q:Exit→Act→World→Prop) (g:Option Nat):List (List Oper×Oper×Bool)→Act→World→Prop
 | [],a,w=>Q .normal a w
 | (lq,o,f)::rest,a,w=>wpQuiet P ops (fun w'=>∃e:At (ac7 g w),w'=e.val) (fun a'=>wpList P ops (Exit.then (fun a'' w''=>(f=true∨ac7 g w w'')∧hg7 P ops Q g rest a'' w'') Q) [o] a' w) lq a
theorem wg7 {S S':World→Prop}{fins:List Nat}(hS:∀w,S w→S' w):∀(fuel:Nat) (listed:Array Bool) (a:Act) (w:World),mc7 P md ops Q S fins fuel listed a w→mc7 P md ops Q S' fins fuel listed a w
 | 0,_,_,_,h=>h
 | fuel+1,_,_,_,h=>⟨h.1,fun i hi=>wpOp_mono (fun a' w' h'=>h'.imp id fun h=>⟨hS _ h.1,wg7 hS fuel _ a' w' h.2⟩) (h.2 i hi)⟩
theorem hcb7 {S:World→Prop}{fins:List Nat}{i:Nat}(hi:i<ops.size) {fuel:Nat}{listed:Array Bool}(hr:Region.ready md ops listed=[i]) {K:Act→World→Prop}{a:Act}{w:World}(hl:wpList P ops (Exit.then K Q) [ops.getD i default] a w)
  (hK:∀a'' w'',K a'' w''→(i∈fins∨S w'')∧mc7 P md ops Q S fins fuel (listed.setIfInBounds i true) a'' w''):mc7 P md ops Q S fins (fuel+1) listed a w:=by
 have ho:ops[i]? = some (ops.getD i default):=by simp[Array.getD,hi]
 refine⟨fun h0=>(by rw[hr]at h0;cases h0),fun j hj=>?_⟩
 rw[hr,List.mem_singleton]at hj
 subst hj
 exact wpOp_mono (fun a'' w'' hk=>orF (hK a'' w'' hk)) (fq7 ho hl)
theorem hz7 {S:World→Prop}{g:Option Nat}{fins:List Nat}:∀(l:List (List Nat×Nat×Bool)) (listed:Array Bool) (a:Act) (w:World),l.all (fun x=>x.2.2&&x.1.isEmpty)=true→udb7 md ops fins l listed=true →
  hg7 P ops Q g (in7 ops l) a w→mc7 P md ops Q S fins (td7 l) listed a w
 | [],listed,a,w,_,hB,h=>⟨by simpa[udb7]using hB,h⟩
 | (lq,i,f)::rest,listed,a,w,ha,hB,h=>by
  simp only[List.all_cons,Bool.and_eq_true,List.isEmpty_iff]at ha
  obtain⟨⟨rfl,rfl⟩,ha⟩:=ha
  simp only[udb7,qh7]at hB
  simp only[Bool.and_eq_true,decide_eq_true_eq,beq_iff_eq]at hB
  obtain⟨⟨⟨⟨h1,h2⟩,h3⟩,h4⟩,h5⟩:=hB
  simp only[in7,List.map_cons,List.map_nil,hg7,wpQuiet]at h
  have hif:i∈fins:=by simpa using h2.symm
  rw[show td7 (([],i,true)::rest)=td7 rest+1 by simp[td7];omega]
  exact hcb7 h4 h1 h fun a'' w'' hk=>⟨.inl hif,hz7 rest _ a'' w'' ha h5 hk.2⟩
theorem qu7 {fins:List Nat}{g:Option Nat}(hs:Region.noSelect ops=true) (hQ:∀c a d v w,Q (.panic c) (Act.put a d v) w→Q (.panic c) a w) :
  ∀(l:List (List Nat×Nat×Bool)) (listed:Array Bool) (a:Act) (w:World),Closed md ops listed→udb7 md ops fins l listed=true→hg7 P ops Q g (in7 ops l) a w→mc7 P md ops Q (ac7 g w) fins (td7 l) listed a w
 | [],listed,a,w,_,hB,h=>⟨by simpa[udb7]using hB,h⟩
 | (lq,i,f)::rest,listed,a,w,hcl,hB,h=>by
  cases f with
  | true =>
   have hB2:=hB
   simp only[udb7]at hB2
   split at hB2
   ·cases hB2
   ·simp only[Bool.not_true,Bool.false_or,Bool.and_eq_true]at hB2
    exact hz7 _ _ _ _ (by simp only[List.all_cons,Bool.and_eq_true];exact⟨⟨trivial,hB2.1.1.2.1⟩,hB2.1.1.2.2⟩) hB h
  | false =>
   simp only[udb7]at hB
   split at hB
   case h_1=>cases hB
   rename_i listed' hq
   simp only[Bool.and_eq_true,decide_eq_true_eq,beq_iff_eq]at hB
   obtain⟨⟨⟨⟨h1,h2⟩,h3⟩,h4⟩,h5⟩:=hB
   rw[show td7 ((lq,i,false)::rest)=lq.length+(td7 rest+1) by simp only[td7];omega]
   simp only[in7,List.map_cons,hg7]at h
   exact of7 hs hQ (ac7.refl _ _) lq listed listed' a hcl hq h fun a' hcl' hl=>hcb7 h4 h1 hl fun a'' w'' ⟨ho,hm⟩ =>
    have ho:ac7 g w w'':=ho.resolve_left (by simp)
    ⟨.inr ho,wg7 (fun w3 h3=>ac7.step ho h3) _ _ _ _ (qu7 hs hQ rest _ a'' w'' (hcl'.set (by rw[h1];exact List.mem_singleton.2 rfl)) h5 hm)⟩
end draw
section
variable {P:Program} {ty:Ty} {E:Env} {nt:Nat} {M M':Mp} {σ σ':AS} {a a':Act} {w w':World}
theorem Same.old (h:Rel E M σ.H w) (ho:ac7 none w w'):Same M σ.H w w':=by
 rintro b (hb | ⟨id,fz,t,sz,r,hr,rfl⟩ | ⟨q,hq⟩)
 ·exact ho.2 b (h.rlt b hb) (by simp)
 ·exact ho.2 _ (h.lt hr) (by simp)
 ·exact ho.2 b (h.tau.lt hq) (by simp)
theorem is7 (H:List Root) (k:Nat):aa7 (ca7 H k .dead) k = .dead:=by
 by_cases hk:k<H.length
 ·rw[jb7,if_pos ⟨rfl,hk⟩]
 ·exact uf7 (by rw[da7];omega)
theorem xa7 {H:List Root}{k i:Nat}{fz:Bool}{t:TypeId}{sz:Nat}{r:Row}(h:aa7 (ca7 H k .dead) i = .live fz t sz r):i≠k∧aa7 H i = .live fz t sz r:=by
 by_cases e:i=k
 ·subst e;rw[is7]at h;cases h
 ·refine⟨e, ?_⟩
  rw[jb7,if_neg (fun hh=>e hh.1)]at h
  exact h
theorem Con.kill {x:AV}{v:Value}(k:Nat) (h:Con M σ.H w x v):Con M (ca7 σ.H k .dead) w x v:=by
 cases x with
 | ptr id n i o=>exact⟨⟨by rw[da7];exact h.1.1,h.1.2⟩,fun fz t sz r hr=>h.2 fz t sz r (xa7 hr).2⟩
 | h id st len=>exact⟨⟨by rw[da7];exact h.1.1,h.1.2⟩,fun fz t sz r hr=>h.2 fz t sz r (xa7 hr).2⟩
 | _=>exact h
theorem Rel.kill (k:Nat) (h:Rel E M σ.H w):Rel E M (ca7 σ.H k .dead) w:=by
 refine⟨h.bel,fun id fz t sz r hr=>h.low id fz t sz r (xa7 hr).2,fun id fz t sz r hr=>?_,fun id t sz r hr=>h.froz id t sz r (xa7 hr).2,fun id t sz r hr=>h.thaw id t sz r (xa7 hr).2,
  fun i j t s r t' s' r' h1 h2=>h.inj i j t s r t' s' r' (xa7 h1).2 (xa7 h2).2,h.rlt,h.src,h.tau.keep rfl (fun _ _ _=>rfl) (fun b q hq=>(h.tau.new b q hq).2) fun b q j fz t s r hq hj=>h.tau.row _ _ _ _ _ _ _ hq (xa7 hj).2⟩
 obtain⟨cur,k1,k2,k3,k4,k5,k6⟩:=h.row id fz t sz r (xa7 hr).2
 refine⟨cur,k1,k2,k3,k4,k5,fun i hi o ho=>?_⟩
 obtain⟨v,g1,g2,g3⟩:=k6 i hi o ho
 refine⟨v,g1,g2, ?_⟩
 unfold vd7 at g3 ⊢
 split
 ·rename_i hb;rw[if_pos hb]at g3;exact g3.kill k
 ·rename_i hb;rw[if_neg hb]at g3;exact g3
theorem St.kill (k:Nat) (h:St E nt M σ a w):St E nt M ⟨σ.tm,ca7 σ.H k .dead⟩ a w :=
 ⟨h.rel.kill k,fun t ht=>Kp.R (fun _ _ hc=>Con.kill k hc) (h.tms t ht),h.off,h.sz,h.df⟩
theorem Same.oldK {k:Nat}(h:Rel E M σ.H w) (hv:iv7 σ.H k) (ho:ac7 (some (M.phi k)) w w'):Same M (ca7 σ.H k .dead) w w':=by
 unfold iv7 at hv
 split at hv
 ·rename_i fz t sz r hr
  obtain⟨rfl,-⟩:=hv
  rintro b (hb | ⟨id,fz,t',sz',r',hr',rfl⟩ | ⟨q,hq⟩)
  ·refine ho.2 b (h.rlt b hb) fun e=>?_
   cases e
   exact h.thaw _ _ _ _ hr hb
  ·obtain⟨h1,h2⟩:=xa7 hr'
   refine ho.2 _ (h.lt h2) fun e=>?_
   have e:M.phi id=M.phi k:=Option.some.inj e
   cases fz with
   | false=>exact h1 (h.inj _ _ _ _ _ _ _ _ h2 hr e)
   | true=>exact h.thaw _ _ _ _ hr (e ▸ h.froz _ _ _ _ h2)
  ·refine ho.2 b (h.tau.lt hq) fun e=>?_
   cases e
   exact h.tau.row _ _ _ _ _ _ _ hq hr rfl
 ·exact hv.elim
theorem fab7 (hT:qb7 P ty) (h:St E nt M σ a w) {ops:Array Oper}{o:Oper}(hv:isV o.op=true) (hd:∀t,o.dst=some t→t<nt) {K:AS→Prop}{dd:Option Nat}(hw:rr7 ty (guardOf σ.tm ops o.guard) dd σ o K) :
  ∃σ' v,K σ'∧σ'.H=σ.H∧St E nt M σ' (a.put o.dst v) w∧(Region.wanted o (yielded ops a.tmps)=true→∀w',ac7 (dd.map M.phi) w w'→(execOp a.eval o).run P w' = .ok (.value v) w')∧(Region.wanted o (yielded ops a.tmps)=false→v=undef):=by
 obtain⟨σ',v,k1,k2,k3,k4,k5⟩:=val_ok hT h hv hd hw
 refine⟨σ',v,k1,k2,k3,fun hwt w' ho=>?_,k5⟩
 cases dd with
 | none=>exact k4 hwt w' (Same.old h.rel ho)
 | some k =>
  unfold rr7 at hw
  split at hw
  ·exact hw.elim
  ·rename_i g hg
   obtain⟨h1,⟨h2,h3⟩,h4,h5⟩:=hw
   rw[bd7 h hg rfl]at hwt
   subst hwt
   obtain⟨v',-,v2⟩:=cab7 hT (h.kill k) hv rfl h1 (h3 rfl)
   have e1:=k4 (bd7 h hg rfl) w Same.refl
   have e2:=v2 w Same.refl
   rw[e1]at e2
   cases e2
   exact v2 w' (Same.oldK h.rel h2 ho)
theorem pu7 {w':World}{H H':List Root}{k:Nat}(hk:Kp M H w M' H' w') (h1:iv7 H k) (h2:iv7 H' k):M'.phi k=M.phi k:=by
 unfold iv7 at h1 h2
 split at h1
 ·rename_i fz t sz r hr
  split at h2
  ·rename_i fz' t' sz' r' hr'
   have hc:=hk (.ptr k 1 0 0) (.pointer (some ⟨M.phi k,M.off k+0*sz+0,none⟩)) ⟨⟨yb7 hr,rfl⟩,fun fz2 t2 sz2 r2 hr2=>by
    rw[hr]at hr2;cases hr2
    exact⟨by omega,fun _=>rfl⟩⟩
   have:=(hc.2 _ _ _ _ hr').2 (by omega)
   simp only[Value.pointer.injEq,Option.some.injEq,Addr.mk.injEq]at this
   exact this.1.symm
  ·exact h2.elim
 ·exact h1.elim
theorem gfb7 [Pan] {pu:Pu}{dd:Option Nat}{ops:Array Oper}{o:Oper}{K:AS→Prop}(hw:mk7 P ty pu dd ops σ o K):stb dd (iv7 σ.H):=by
 unfold mk7 at hw
 split at hw
 ·unfold rr7 at hw
  split at hw
  ·exact hw.elim
  ·cases dd with
   | none=>trivial
   | some k=>exact hw.2.1.1
 ·exact hw.1
theorem iw7 (ops:Array Oper):∀l:List Nat,(pick ops l).length=l.length
 | []=>rfl
 | _::l=>by simp[pick,iw7 ops l]
theorem fs7 [Pan] (hT:qb7 P ty) {nf:Nat}{dd g0:Option Nat}{ops:Array Oper}{K:AS→Prop}{Q:Exit→Act→World→Prop}:∀(l:List Nat) {M:Mp}{σ:AS}{a:Act}{w:World},St E nt M σ a w→(l≠[]→dd.map M.phi=g0)→(∀o∈pick ops l,∀t,o.dst=some t→t<nt)→xl7 P ty nf dd ops (pick ops l) K σ →
  (∀a' w',After E nt M σ a w (we7 (pick ops l)) K a' w'→Q .normal a' w')→(∀a' ch w',a'.defers=E.df→bl7 E M σ.H w ch w'→Q (.panic ch) a' w')→hg7 P ops Q g0 (in7 ops (au7 ops nf l)) a w
 | [],M,σ,a,w,h,_,_,hw,hQ,_=>hQ a w ⟨M,σ,h,Stp.refl _ _ _ _ _,hw⟩
 | i::l,M,σ,a,w,h,hg0,hd,hw,hQ,hP=>by
  have hg1:=hg0 (by simp)
  have hd0:=hd _ (List.mem_cons_self ..)
  have hdl:∀o∈pick ops l,∀t,o.dst=some t→t<nt:=fun o ho=>hd o (List.mem_cons_of_mem _ ho)
  have cont:∀{M' σ' a' w'},Stp M σ a w M' σ' a' w' (fun t=>(ops.getD i default).dst=some t)→∀a2 w2,After E nt M' σ' a' w' (we7 (pick ops l)) K a2 w2→Q .normal a2 w2:=fun q3 a2 w2 ⟨M2,σ2,r1,r2,r3⟩ =>
   hQ a2 w2 ⟨M2,σ2,r1,q3.trans r2 (fun t ht=>⟨_,List.mem_cons_self ..,ht⟩) (fun t ⟨o2,ho,ht⟩=>⟨o2,List.mem_cons_of_mem _ ho,ht⟩),r3⟩
  simp only[au7]
  split
  ·rename_i q j r hc hp
   simp only[Bool.and_eq_true]at hc
   obtain⟨hv,-⟩:=hc
   have hw':rr7 ty (guardOf σ.tm ops (ops.getD i default).guard) dd σ (ops.getD i default) (xl7 P ty nf dd ops (pick ops l) K):=by
    have:mk7 P ty _ dd ops σ (ops.getD i default) _:=hw
    unfold mk7 at this
    rw[if_pos hv]at this
    exact this
   obtain⟨σ',v,k1,k2,k3,k4,k5⟩:=fab7 hT h hv hd0 hw'
   have ih:=fs7 hT l k3 (fun _=>hg1) hdl k1 (cont (sf7 k2)) (fun a2 ch w2 hd hp=>hP a2 ch w2 hd (by rw[k2]at hp;exact hp))
   rw[hp]at ih
   simp only[in7,List.map_cons,hg7]at ih ⊢
   unfold wpQuiet
   split
   ·rename_i hwt
    refine⟨v, ?_,ih⟩
    rintro w1 ⟨e,rfl⟩
    unfold Oper.quietAt
    rw[k4 hwt e.val (hg1 ▸ e.ok)]
    exact⟨rfl,rfl⟩
   ·rename_i hwt
    rw[k5 (by simpa using hwt)]at ih
    exact ih
  ·have hw':mk7 P ty (ez7 nf l.length dd) dd ops σ (ops.getD i default) (xl7 P ty nf dd ops (pick ops l) K):=by
    have:mk7 P ty (ez7 nf (pick ops l).length dd) dd ops σ (ops.getD i default) (xl7 P ty nf dd ops (pick ops l) K):=hw
    rwa [iw7]at this
   have hvw:=gfb7 hw'
   have:=ep7 (Q:=Exit.then (fun a'' w''=>(decide (l.length<nf)=true∨ac7 g0 w w'')∧hg7 P ops Q g0 (in7 ops (au7 ops nf l)) a'' w'') Q)
    (next:=wpList P ops (Exit.then (fun a'' w''=>(decide (l.length<nf)=true∨ac7 g0 w w'')∧hg7 P ops Q g0 (in7 ops (au7 ops nf l)) a'' w'') Q) []) hT h hd0 hw' (fun M' σ' a' w' q1 q2 q3 q4 =>
     ⟨by
      by_cases hf:l.length<nf
      ·exact .inl (decide_eq_true hf)
      ·exact .inr (hg1 ▸ q2 dd (by unfold ez7;rw[if_pos (by omega)])),fs7 hT l q1 (fun hl=>by
       cases dd with
       | none=>exact hg1
       | some k =>
        obtain⟨j,l',rfl⟩:=List.exists_cons_of_ne_nil hl
        have hv2:iv7 σ'.H k:=gfb7 q4
        rw[← hg1]
        exact congrArg some (pu7 q3.kp hvw hv2)) hdl q4 (cont q3) (fun a2 ch w2 hd hp=>hP a2 ch w2 hd (hp.step q3.kp q3.len))⟩) (fun ch w'=>hP a ch w' h.df)
   simp only[in7,List.map_cons,List.map_nil,hg7,wpQuiet]
   unfold wpList
   split
   ·rename_i hwt;rw[if_pos hwt]at this;exact .inl this
   ·rename_i hwt;rw[if_neg hwt]at this;exact this
def ocb7 (ops:Array Oper) (q:List Nat×Nat×Option Nat):List Nat:=if q.1.isEmpty then List.range ops.size else q.1
def yn7 (ops:Array Oper) (q:List Nat×Nat×Option Nat):Bool :=
 Region.noSelect ops&&udb7 .any ops ((ocb7 ops q).drop ((ocb7 ops q).length-q.2.1)) (au7 ops q.2.1 (ocb7 ops q)) (Array.replicate ops.size false)&&decide (td7 (au7 ops q.2.1 (ocb7 ops q))=ops.size)&&(ocb7 ops q).all (fun i=>decide (i<ops.size))
def qf7 (nt:Nat) (ops:Array Oper):Bool:=ops.toList.all fun o=>match o.dst with
 | some t=>decide (t<nt)
 | none=>true
theorem fc7 {ops:Array Oper}(h:qf7 nt ops=true):∀o∈ops.toList,∀t,o.dst=some t→t<nt:=by
 intro o ho t ht
 have:=List.all_eq_true.1 h o ho
 rw[ht]at this
 simpa using this
theorem ew7 {ops:Array Oper}:∀{l:List Nat},(∀i∈l,i<ops.size)→∀o∈pick ops l,o∈ops.toList
 | [],_,o,h=>by cases h
 | i::l,hl,o,h=>by
  rcases List.mem_cons.1 h with rfl | h
  ·have hi:=hl i (List.mem_cons_self ..)
   simp[Array.getD,hi]
  ·exact ew7 (fun j hj=>hl j (List.mem_cons_of_mem _ hj)) o h
theorem tw7 (ops:Array Oper):pick ops (List.range ops.size)=ops.toList:=by
 have:∀l:List Nat,pick ops l=l.map fun i=>ops.getD i default:=by
  intro l
  induction l with
  | nil=>rfl
  | cons i l ih=>simp[pick,ih]
 rw[this]
 apply List.ext_getElem
 ·simp
 ·intro i h1 h2
  simp at h1 h2 ⊢
  simp[Array.getD,h1]
theorem um7 [Pan] (hT:qb7 P ty) (hm:P.follows .mixedOrders=true) {id:Nat}{ops:Array Oper}{q:List Nat×Nat×Option Nat}(hB:yn7 ops q=true) (hd:qf7 nt ops=true) {K:AS→Prop}(h:St E nt M σ a w) (hw:ht7 P ty ops q K σ) {Q:Exit→Act→World→Prop}
  (hQ:∀a' w',After E nt M σ a w (we7 ops.toList) K a' w'→Q .normal a' w') (hQp:∀c a d v w,Q (.panic c) (Act.put a d v) w→Q (.panic c) a w) (hP:∀a' ch w',a'.defers=E.df→bl7 E M σ.H w ch w'→Q (.panic ch) a' w'):(Code.region id ops true).wp P Q a w:=by
 unfold yn7 at hB
 simp only[Bool.and_eq_true,decide_eq_true_eq,List.all_eq_true]at hB
 obtain⟨⟨⟨b1,b2⟩,b3⟩,b4⟩:=hB
 have hw2:xl7 P ty q.2.1 q.2.2 ops (pick ops (ocb7 ops q)) K σ:=by
  obtain⟨l,nf,dd⟩:=q
  cases l with
  | nil =>
   show xl7 P ty nf dd ops (pick ops (List.range ops.size)) K σ
   rw[tw7];exact hw
  | cons i l=>exact hw
 have hb:Below w.heap.size w w.drew:=(Below.refl _ _).drew
 have h2:St E nt M σ a w.drew:=⟨h.rel.below hb,fun t ht=>(Kp.below h.rel hb).R (h.tms t ht),h.off,h.sz,h.df⟩
 have hmem:∀o∈pick ops (ocb7 ops q),o∈ops.toList:=ew7 b4
 have hmix:=fs7 (Q:=Q) (g0:=q.2.2.map M.phi) hT (ocb7 ops q) h2 (fun _=>rfl) (fun o ho=>fc7 hd o (hmem o ho)) hw2 (fun a' w' ⟨M2,σ2,r1,r2,r3⟩=>hQ a' w' ⟨M2,σ2,r1,⟨r2.len,(Kp.below h.rel hb).trans r2.kp,fun t ht=>r2.tm t fun ⟨o,ho,e⟩=>ht ⟨o,hmem o ho,e⟩⟩,r3⟩) (fun a' ch w' hd hp=>hP a' ch w' hd (hp.step (Kp.below h.rel hb) (Nat.le_refl _)))
 refine wp_region_any hm (fd7 (S:=ac7 (q.2.2.map M.phi) w.drew) (fins:=(ocb7 ops q).drop ((ocb7 ops q).length-q.2.1)) _ _ _ _ ?_)
 rw[← b3]
 exact qu7 b1 hQp _ _ a _ (fun j oj _ hl=>by rw[getD_replicate_false]at hl;cases hl) (by rw[b3];exact b2) hmix
def pgb7 (ops:Array Oper) (fins:List Nat):List Nat→Array Bool→Bool
 | [],listed=>(Region.ready .any ops listed).isEmpty
 | i::r,listed=>decide (Region.ready .any ops listed=[i])&&decide (i<ops.size)&&fins.contains i&&pgb7 ops fins r (listed.setIfInBounds i true)
def dpb7:Tw→Bool
 | .d=>false
 | _=>true
def xpb7 (ks:List Nat):Nat→Bool
 | k+2=>ks.contains k
 | _=>true
def vib7 (ops:Array Oper) (fins r ks:List Nat):Tw→Nat→Bool→List Nat→Array Bool→Bool
 | .d,n,_,_,l=>decide (r.length=n)&&pgb7 ops fins r l
 | .no,n,_,al,l=>decide (0<n)&&decide (Region.ready .any ops l≠[])&&(Region.ready .any ops l).all (al.contains ·)
 | .br w i t q,n,dy,al,l=>decide (i<ops.size)&&(decide (w≠1) || dy || fins.contains i)&&xpb7 ks w&&dpb7 q&&vib7 ops fins r ks t (n-1) (dy || decide (w=1)) [] (l.setIfInBounds i true)&&vib7 ops fins r ks q n dy (i::al) l
def lrb7 (ops:Array Oper) (lq ks:List Nat) (T:Tw) (r:List Nat) (fins:List Nat):Bool :=
 Region.noSelect ops&&decide (lq.length≤ops.size)&&lq.all (fun i=>decide (i<ops.size)&&isV (ops.getD i default).op)&&match qh7 .any ops fins lq (Array.replicate ops.size false) with
  | some listed=>vib7 ops fins r ks T (ops.size-lq.length) false [] listed
  | none=>false
def rfb7 (ops:Array Oper) (q:List Nat×Nat×Option DD):Bool :=
 match q with
 | (lq,_,some (.t ks T r fins))=>lrb7 ops lq ks T r fins
 | (l,nf,some (.r k))=>yn7 ops (l,nf,some k)
 | (l,nf,none)=>yn7 ops (l,nf,none)
theorem js7 {ops:Array Oper}{Q:Exit→Act→World→Prop}{i:Nat}{Kn:Act→World→Prop}(hi:i<ops.size) (h:if Region.wanted (ops.getD i default) (yielded ops a.tmps) then (ops.getD i default).wp P a w Kn Q else Kn (a.put (ops.getD i default).dst undef) w):wpOp P ops Q i Kn a w:=by
 have ho:ops[i]? = some (ops.getD i default):=by simp[Array.getD,hi]
 unfold wpOp
 rw[ho]
 show if Region.wanted (ops.getD i default) (yielded ops a.tmps) then _∨_ else _
 by_cases hw:Region.wanted (ops.getD i default) (yielded ops a.tmps)=true
 ·rw[if_pos hw]at h ⊢; exact .inl h
 ·rw[if_neg hw]at h ⊢; exact h
theorem dst_at {ops:Array Oper}(hd:qf7 nt ops=true) {i:Nat}(hi:i<ops.size):∀t,(ops.getD i default).dst=some t→t<nt :=
 fc7 hd _ (by simp[Array.getD,hi])
theorem ac7.weak {g:Option Nat}(h:ac7 none w w'):ac7 g w w':=⟨h.1,fun b hb _=>h.2 b hb (by simp)⟩
def ti7 (G:List Nat) (w w':World):Prop:=w.heap.size≤w'.heap.size∧∀b,b<w.heap.size→b ∉ G→w'.heap[b]? = w.heap[b]?
theorem ti7.refl (G:List Nat) (w:World):ti7 G w w:=⟨Nat.le_refl _,fun _ _ _=>rfl⟩
theorem ti7.step {G:List Nat}{w w' w'':World}(h:ti7 G w w') (k:ti7 G w' w''):ti7 G w w'':=⟨Nat.le_trans h.1 k.1,fun b hb hne=>(k.2 b (Nat.lt_of_lt_of_le hb h.1) hne).trans (h.2 b hb hne)⟩
instance (G:List Nat) (w:World):Nonempty (At (ti7 G w)):=⟨⟨w,ti7.refl G w⟩⟩
theorem ti7.of {G:List Nat}{g:Option Nat}(h:ac7 g w w') (hg:∀b,g=some b→b∈G):ti7 G w w':=⟨h.1,fun b hb hne=>h.2 b hb fun e=>hne (hg b e.symm)⟩
def tr7 (M:Mp) (H:List Root):List Nat→List Nat
 | []=>[]
 | k::ks=>match aa7 H k with
  | .live .. => M.phi k::tr7 M H ks
  | .dead=>tr7 M H ks
theorem dw7 {H:List Root}{k:Nat}{fz:Bool}{t:TypeId}{sz:Nat}{r:Row}(hr:aa7 H k = .live fz t sz r):∀{ks:List Nat},k∈ks→M.phi k∈tr7 M H ks
 | q::ks,hk=>by
  rcases List.mem_cons.1 hk with rfl | hk
  ·simp only[tr7,hr];exact List.mem_cons_self ..
  ·have:=dw7 hr hk
   simp only[tr7]
   split
   ·exact List.mem_cons_of_mem _ this
   ·exact this
theorem vo7 {H:List Root}{b:Nat}:∀{ks:List Nat},b∈tr7 M H ks→∃k∈ks,∃fz t sz r,aa7 H k = .live fz t sz r∧b=M.phi k
 | q::ks,hb=>by
  simp only[tr7]at hb
  split at hb
  ·rename_i fz t sz r hr
   rcases List.mem_cons.1 hb with rfl | hb
   ·exact⟨q,List.mem_cons_self ..,fz,t,sz,r,hr,rfl⟩
   ·obtain⟨k,hk,h⟩:=vo7 hb;exact⟨k,List.mem_cons_of_mem _ hk,h⟩
  ·obtain⟨k,hk,h⟩:=vo7 hb;exact⟨k,List.mem_cons_of_mem _ hk,h⟩
theorem su7 {H:List Root}{k:Nat}:∀{ks:List Nat},fl7 H ks→k∈ks→ihb7 (aa7 H k)
 | _::_,h,hk=>by
  rcases List.mem_cons.1 hk with rfl | hk
  ·exact h.1
  ·exact su7 h.2 hk
theorem qy7 {i:Nat}{fz:Bool}{t:TypeId}{sz:Nat}{r:Row}:∀(ks:List Nat) {H:List Root},aa7 (killL ks H) i = .live fz t sz r→i ∉ ks∧aa7 H i = .live fz t sz r
 | [],_,h=>⟨by simp,h⟩
 | k::ks,H,h=>by
  obtain⟨h1,h2⟩:=qy7 ks (H:=ca7 H k .dead) h
  obtain⟨h3,h4⟩:=xa7 h2
  exact⟨by simp only[List.mem_cons,not_or];exact⟨h3,h1⟩,h4⟩
theorem St.killL:∀(ks:List Nat) {σ:AS},St E nt M σ a w→St E nt M ⟨σ.tm,killL ks σ.H⟩ a w
 | [],_,h=>h
 | k::ks,_,h=>St.killL ks (h.kill k)
theorem Same.oldU {ks:List Nat}(h:Rel E M σ.H w) (h0:fl7 σ.H ks) (ho:ti7 (tr7 M σ.H ks) w w'):Same M (Ab.killL ks σ.H) w w':=by
 have key:∀b,b∈tr7 M σ.H ks→∃k∈ks,∃t sz r,aa7 σ.H k = .live false t sz r∧b=M.phi k:=fun b hb=>by
  obtain⟨k,hk,fz,t,sz,r,hr,e⟩:=vo7 hb
  have:=su7 h0 hk
  rw[hr]at this
  obtain⟨rfl,-⟩:=this
  exact⟨k,hk,t,sz,r,hr,e⟩
 rintro b (hb | ⟨id,fz,t',sz',r',hr',rfl⟩ | ⟨q,hq⟩)
 ·refine ho.2 b (h.rlt b hb) fun e=>?_
  obtain⟨k,-,t,sz,r,hr,rfl⟩:=key b e
  exact h.thaw _ _ _ _ hr hb
 ·obtain⟨h1,h2⟩:=qy7 ks hr'
  refine ho.2 _ (h.lt h2) fun e=>?_
  obtain⟨k,hk,t,sz,r,hr,e⟩:=key _ e
  cases fz with
  | false=>exact h1 (by rw[h.inj _ _ _ _ _ _ _ _ h2 hr e];exact hk)
  | true=>exact h.thaw _ _ _ _ hr (e ▸ h.froz _ _ _ _ h2)
 ·refine ho.2 b (h.tau.lt hq) fun e=>?_
  obtain⟨k,-,t,sz,r,hr,rfl⟩:=key b e
  exact h.tau.row _ _ _ _ _ _ _ hq hr rfl
theorem dgb7 (hT:qb7 P ty) (h:St E nt M σ a w) {ops:Array Oper}{o:Oper}(hv:isV o.op=true) (hd:∀t,o.dst=some t→t<nt) {K:AS→Prop}{ks:List Nat}(h0:fl7 σ.H ks) (hw:wt7 ty (guardOf σ.tm ops o.guard) ks σ o K) :
  ∃σ' v,K σ'∧σ'.H=σ.H∧St E nt M σ' (a.put o.dst v) w∧(Region.wanted o (yielded ops a.tmps)=true→∀w',ti7 (tr7 M σ.H ks) w w'→(execOp a.eval o).run P w' = .ok (.value v) w')∧(Region.wanted o (yielded ops a.tmps)=false→v=undef):=by
 have hw0:rr7 ty (guardOf σ.tm ops o.guard) none σ o K:=by
  revert hw
  unfold wt7 rr7
  cases guardOf σ.tm ops o.guard with
  | none=>exact fun h=>h
  | some g=>exact fun hw=>⟨hw.1,trivial,hw.2.2⟩
 obtain⟨σ',v,k1,k2,k3,k4,k5⟩:=val_ok hT h hv hd hw0
 refine⟨σ',v,k1,k2,k3,fun hwt w' ho=>?_,k5⟩
 unfold wt7 at hw
 split at hw
 ·exact hw.elim
 ·rename_i g hg
  obtain⟨h1,h3,h4,h5⟩:=hw
  rw[bd7 h hg rfl]at hwt
  subst hwt
  obtain⟨v',-,v2⟩:=cab7 hT (h.killL ks) hv rfl h1 (h3 rfl)
  have e1:=k4 (bd7 h hg rfl) w Same.refl
  have e2:=v2 w Same.refl
  rw[e1]at e2
  cases e2
  exact v2 w' (Same.oldU h.rel h0 ho)
theorem pj7 [Pan] (hT:qb7 P ty) {ops:Array Oper}(hd:qf7 nt ops=true) {K:AS→Prop}{Q:Exit→Act→World→Prop}{fins:List Nat}{nf:Nat}:∀(r:List Nat) {M:Mp}{σ:AS}{a:Act}{w:World}{l:Array Bool},St E nt M σ a w→xl7 P ty nf none ops (pick ops r) K σ→pgb7 ops fins r l=true →
  (∀a' w',After E nt M σ a w (we7 ops.toList) K a' w'→Q .normal a' w')→(∀a' ch w',a'.defers=E.df→bl7 E M σ.H w ch w'→Q (.panic ch) a' w')→wpAny P .any ops Q r.length l a w
 | [],M,σ,a,w,l,h,hw,hc,hQ,_=>⟨by simpa[pgb7]using hc,hQ _ _ ⟨M,σ,h,Stp.refl _ _ _ _ _,hw⟩⟩
 | i::r,M,σ,a,w,l,h,hw,hc,hQ,hP=>by
  simp only[pgb7,Bool.and_eq_true,decide_eq_true_eq]at hc
  obtain⟨⟨⟨h1,h2⟩,h3⟩,h4⟩:=hc
  refine⟨fun h0=>(by rw[h1]at h0;cases h0),fun j hj=>?_⟩
  rw[h1,List.mem_singleton]at hj
  subst hj
  exact js7 h2 (ep7 hT h (dst_at hd h2) (show mk7 P ty _ none ops σ (ops.getD j default) (xl7 P ty nf none ops (pick ops r) K) from hw)
   (fun M' σ' a' w' q1 _ q3 q4=>pj7 hT hd r q1 q4 h4 (fun a2 w2 hA=>hQ a2 w2 (hA.step q3 fun t ht=>⟨_,by simp[Array.getD,h2],ht⟩)) (fun a2 ch w2 hd hp=>hP a2 ch w2 hd (hp.step q3.kp q3.len)))
   (fun ch w'=>hP a ch w' h.df))
theorem yhb7 {w0:World}{M0:Mp}{H0:List Root}{k:Nat}{ks:List Nat}(hkm:k∈ks) (hk:Kp M0 H0 w0 M σ.H w) (h1:jkb7 (znb7 (aa7 H0 k)) (aa7 σ.H k)) (ho:ac7 ((gR k (aa7 σ.H k)).map M.phi) w w'):ti7 (tr7 M0 H0 ks) w w':=by
 refine ti7.of ho fun b hb=>?_
 cases hr:aa7 σ.H k with
 | dead=>rw[hr]at hb;cases hb
 | live fz t sz r =>
  rw[hr]at h1 hb
  cases hb
  obtain⟨e1,e2⟩:=h1
  cases hr0:aa7 H0 k with
  | dead=>rw[hr0]at e1;have e1:r.len=0:=e1;omega
  | live fz0 t0 sz0 r0 =>
   rw[hr0]at e1
   have hn:r.len=r0.len:=e1
   have hc:=hk (.ptr k r0.len 0 0) (.pointer (some ⟨M0.phi k,M0.off k+0*sz0+0,none⟩)) ⟨⟨yb7 hr0,rfl⟩,fun fz2 t2 sz2 r2 hr2=>by
    rw[hr0]at hr2;cases hr2
    exact⟨by omega,fun _=>rfl⟩⟩
   have:=(hc.2 _ _ _ _ hr).2 (by omega)
   simp only[Value.pointer.injEq,Option.some.injEq,Addr.mk.injEq]at this
   rw[← this.1]
   exact dw7 hr0 hkm
def br7 (P:Program) (ops:Array Oper) (Q:Exit→Act→World→Prop) (fins:List Nat) (g0:List Nat) (w0:World) (dy:Bool) (n:Nat) (l:Array Bool) (a:Act) (w:World):Prop :=
 if dy then wpAny P .any ops Q n l a w else mc7 P .any ops Q (ti7 g0 w0) fins n l a w
theorem dp7 [Pan] (hT:qb7 P ty) {ops:Array Oper}(hd:qf7 nt ops=true) {K:AS→Prop}{Q:Exit→Act→World→Prop}{fins r:List Nat}{w0:World}{M0:Mp}{H0:List Root}{ks g0:List Nat}(hg0:g0=tr7 M0 H0 ks) :
  ∀(T:Tw) {n:Nat} {dy:Bool} {al:List Nat} {l:Array Bool} {M:Mp} {σ:AS} {a:Act} {w:World},St E nt M σ a w→vib7 ops fins r ks T n dy al l=true→jf7 P ty ops H0 r T K σ→(dy=false→ti7 g0 w0 w)→Kp M0 H0 w0 M σ.H w →
  (∀a' w',After E nt M σ a w (we7 ops.toList) K a' w'→Q .normal a' w')→(∀a' ch w',a'.defers=E.df→bl7 E M σ.H w ch w'→Q (.panic ch) a' w') →
  (T = .d∧br7 P ops Q fins g0 w0 dy n l a w)∨((0<n∧Region.ready .any ops l≠[])∧∀m,n=m+1→∀i∈Region.ready .any ops l,i∈al∨wpOp P ops Q i (fun a' w'=>if dy then wpAny P .any ops Q m (l.setIfInBounds i true) a' w' else (i∈fins∧wpAny P .any ops Q m (l.setIfInBounds i true) a' w')∨(ti7 g0 w0 w'∧mc7 P .any ops Q (ti7 g0 w0) fins m (l.setIfInBounds i true) a' w')) a w)
 | .d,n,dy,al,l,M,σ,a,w,h,hc,hw,ho,hk,hQ,hP=>by
  simp only[vib7,Bool.and_eq_true,decide_eq_true_eq]at hc
  obtain⟨rfl,hc⟩:=hc
  refine .inl ⟨rfl, ?_⟩
  unfold br7
  split
  ·exact pj7 hT hd r h hw hc hQ hP
  ·cases r with
   | nil=>exact⟨by simpa[pgb7]using hc,hQ _ _ ⟨M,σ,h,Stp.refl _ _ _ _ _,hw⟩⟩
   | cons i r =>
    simp only[pgb7,Bool.and_eq_true,decide_eq_true_eq]at hc
    obtain⟨⟨⟨h1,h2⟩,h3⟩,h4⟩:=hc
    refine⟨fun h0=>(by rw[h1]at h0;cases h0),fun j hj=>?_⟩
    rw[h1,List.mem_singleton]at hj
    subst hj
    exact js7 h2 (ep7 hT h (dst_at hd h2) (show mk7 P ty _ none ops σ (ops.getD j default) (xl7 P ty (j::r).length none ops (pick ops r) K) from hw)
     (fun M' σ' a' w' q1 _ q3 q4=>.inl ⟨by simpa using h3,pj7 hT hd r q1 q4 h4 (fun a2 w2 hA=>hQ a2 w2 (hA.step q3 fun t ht=>⟨_,by simp[Array.getD,h2],ht⟩)) (fun a2 ch w2 hd hp=>hP a2 ch w2 hd (hp.step q3.kp q3.len))⟩)
     (fun ch w'=>hP a ch w' h.df))
 | .no,n,dy,al,l,M,σ,a,w,h,hc,hw,ho,hk,hQ,hP=>by
  simp only[vib7,Bool.and_eq_true,decide_eq_true_eq,List.all_eq_true]at hc
  exact .inr ⟨hc.1,fun m _ i hi=>.inl (by simpa using hc.2 i hi)⟩
 | .br wr i t q,n,dy,al,l,M,σ,a,w,h,hc,hw,ho,hk,hQ,hP=>by
  simp only[vib7,Bool.and_eq_true,decide_eq_true_eq]at hc
  obtain⟨⟨⟨⟨⟨h1,h2⟩,hrb⟩,h3⟩,h4⟩,h5⟩:=hc
  rcases dp7 hT hd hg0 q h h5 hw.2 ho hk hQ hP with ⟨e,-⟩ | ⟨k1,k2⟩
  ·subst e
   cases h3
  ·refine .inr ⟨k1,fun m hm j hj=>?_⟩
   rcases k2 m hm j hj with hj2 | hj2
   ·rcases List.mem_cons.1 hj2 with rfl | hj2
    ·refine .inr (js7 h1 (ep7 hT h (dst_at hd h1) hw.1.2 (fun M' σ' a' w' q1 q2 q3 q4=>?_) (fun ch w'=>hP a ch w' h.df)))
     have hold:dy=false→wr≠1→ti7 g0 w0 w':=fun e1 e2=>by
      refine (ho e1).step ?_
      match wr,e2,hw,q2,hrb with
      | 0,_,_,q2,_=>exact ti7.of (q2 none rfl) (fun b hb=>by cases hb)
      | 1,e2,_,_,_=>exact absurd rfl e2
      | k+2,_,hw,q2,hrb=>rw[hg0];exact yhb7 (by simpa[xpb7]using hrb) hk hw.1.1 (q2 _ rfl)
     have ih:=dp7 hT hd hg0 t q1 h4 q4 (fun e=>by
      rw[Bool.or_eq_false_iff]at e
      exact hold e.1 (by simpa using e.2)) (hk.trans q3.kp) (fun a2 w2 hA=>hQ a2 w2 (hA.step q3 fun t ht=>⟨_,by simp[Array.getD,h1],ht⟩)) (fun a2 ch w2 hd hp=>hP a2 ch w2 hd (hp.step q3.kp q3.len))
     have ih2:br7 P ops Q fins g0 w0 (dy || decide (wr=1)) m (l.setIfInBounds j true) a' w':=by
      have e:n-1=m:=by omega
      rw[e]at ih
      rcases ih with ⟨-,ih⟩ | ⟨⟨g0,g1⟩,g2⟩
      ·exact ih
      ·unfold br7
       cases m with
       | zero=>omega
       | succ m =>
        split
        ·rename_i hdy
         refine⟨fun h0=>absurd h0 g1,fun i hi=>?_⟩
         have:=(g2 m rfl i hi).resolve_left (by simp)
         rw[hdy]at this
         simpa using this
        ·rename_i hdy
         refine⟨fun h0=>absurd h0 g1,fun i hi=>?_⟩
         have:=(g2 m rfl i hi).resolve_left (by simp)
         rw[Bool.eq_false_iff.2 hdy]at this
         simpa using this
     unfold br7 at ih2
     cases dy with
     | true=>simpa using ih2
     | false =>
      by_cases hwr:wr≠1
      ·have e:decide (wr=1)=false:=decide_eq_false hwr
       rw[e]at ih2
       exact .inr ⟨hold rfl hwr,by simpa using ih2⟩
      ·have e:decide (wr=1)=true:=decide_eq_true (Decidable.of_not_not hwr)
       rw[e]at ih2
       exact .inl ⟨by simpa[hwr]using h2,by simpa using ih2⟩
    ·exact .inl hj2
   ·exact .inr hj2
theorem quiet_mono {S:World→Prop}{ops:Array Oper}{K K':Act→Prop}(hK:∀a,K a→K' a):∀(l:List Oper) {a:Act},wpQuiet P ops S K l a→wpQuiet P ops S K' l a
 | [],_,h=>hK _ h
 | o::l,a,h=>by
  unfold wpQuiet at h ⊢
  split
  ·rename_i hw
   rw[if_pos hw]at h
   obtain⟨v,h1,h2⟩:=h
   exact⟨v,h1,quiet_mono hK l h2⟩
  ·rename_i hw
   rw[if_neg hw]at h
   exact quiet_mono hK l h
theorem quiet_step {ops:Array Oper}{ks:List Nat}{K:AS→Prop}{l:List Oper}{ds:Nat→Prop}{a1:Act}(h:wpQuiet P ops (fun w'=>∃e:At (ti7 (tr7 M σ'.H ks) w),w'=e.val) (fun a'=>∃σ2,St E nt M σ2 a' w∧σ2.H=σ'.H∧Stp M σ' a1 w M σ2 a' w (we7 ops.toList)∧K σ2) l a1) (he:σ'.H=σ.H) (hs:Stp M σ a w M σ' a1 w ds) (hd:∀t,ds t→we7 ops.toList t) :
  wpQuiet P ops (fun w'=>∃e:At (ti7 (tr7 M σ.H ks) w),w'=e.val) (fun a'=>∃σ2,St E nt M σ2 a' w∧σ2.H=σ.H∧Stp M σ a w M σ2 a' w (we7 ops.toList)∧K σ2) l a1:=by
 rw[he]at h
 exact quiet_mono (fun a' ⟨σ2,q1,q2,q3,q4⟩=>⟨σ2,q1,q2,hs.trans q3 hd fun _ h=>h,q4⟩) l h
theorem nq7 (hT:qb7 P ty) {ops:Array Oper}(hd:qf7 nt ops=true) {ks:List Nat}{K:AS→Prop}:∀(lq:List Nat) {σ:AS}{a:Act},St E nt M σ a w→fl7 σ.H ks→(∀i∈lq,i<ops.size∧isV (ops.getD i default).op=true)→mo7 ty ops ks (pick ops lq) K σ →
  wpQuiet P ops (fun w'=>∃e:At (ti7 (tr7 M σ.H ks) w),w'=e.val) (fun a'=>∃σ',St E nt M σ' a' w∧σ'.H=σ.H∧Stp M σ a w M σ' a' w (we7 ops.toList)∧K σ') (lq.map fun j=>ops.getD j default) a
 | [],σ,a,h,_,_,hw=>⟨σ,h,rfl,Stp.refl _ _ _ _ _,hw⟩
 | i::lq,σ,a,h,h0,hl,hw=>by
  obtain⟨h1,h2⟩:=hl i (List.mem_cons_self ..)
  obtain⟨σ',v,k1,k2,k3,k4,k5⟩:=dgb7 hT h h2 (dst_at hd h1) h0 (show wt7 ty (guardOf σ.tm ops (ops.getD i default).guard) ks σ (ops.getD i default) (mo7 ty ops ks (pick ops lq) K) from hw)
  have ih:=nq7 hT hd lq k3 (by rw[k2];exact h0) (fun j hj=>hl j (List.mem_cons_of_mem _ hj)) k1
  have ih:=quiet_step ih k2 (sf7 (M:=M) (w:=w) (a:=a) (o:=ops.getD i default) (v:=v) k2) (fun t ht=>⟨_,by simp[Array.getD,h1],ht⟩)
  simp only[List.map_cons]
  unfold wpQuiet
  by_cases hwt:Region.wanted (ops.getD i default) (yielded ops a.tmps)=true
  ·rw[if_pos hwt]
   refine⟨v, ?_,ih⟩
   rintro w1 ⟨e,rfl⟩
   unfold Oper.quietAt
   rw[k4 hwt e.val e.ok]
   exact⟨rfl,rfl⟩
  ·rw[if_neg hwt]
   rw[k5 (by simpa using hwt)]at ih
   exact ih
theorem dbb7 [Pan] (hT:qb7 P ty) (hm:P.follows .mixedOrders=true) {id:Nat}{ops:Array Oper}{q:List Nat×Nat×Option DD}(hB:rfb7 ops q=true) (hd:qf7 nt ops=true) {K:AS→Prop}(h:St E nt M σ a w) (hw:ojb7 P ty ops q K σ) {Q:Exit→Act→World→Prop}
  (hQ:∀a' w',After E nt M σ a w (we7 ops.toList) K a' w'→Q .normal a' w') (hQp:∀c a d v w,Q (.panic c) (Act.put a d v) w→Q (.panic c) a w) (hP:∀a' ch w',a'.defers=E.df→bl7 E M σ.H w ch w'→Q (.panic ch) a' w'):(Code.region id ops true).wp P Q a w:=by
 obtain⟨lq,nf,dd⟩:=q
 match dd with
 | none=>exact um7 hT hm (q:=(lq,nf,none)) hB hd h hw hQ hQp hP
 | some (.r k)=>exact um7 hT hm (q:=(lq,nf,some k)) hB hd h hw hQ hQp hP
 | some (.t ks T r fins) =>
  have hB:lrb7 ops lq ks T r fins=true:=hB
  obtain⟨h0,hw⟩:fl7 σ.H ks∧mo7 ty ops ks (pick ops lq) (jf7 P ty ops σ.H r T K) σ:=hw
  unfold lrb7 at hB
  simp only[Bool.and_eq_true,decide_eq_true_eq,List.all_eq_true]at hB
  obtain⟨⟨⟨b2,b3⟩,b4⟩,b5⟩:=hB
  split at b5
  case h_2=>cases b5
  rename_i listed hq
  have hb:Below w.heap.size w w.drew:=(Below.refl _ _).drew
  have h2:St E nt M σ a w.drew:=⟨h.rel.below hb,fun t ht=>(Kp.below h.rel hb).R (h.tms t ht),h.off,h.sz,h.df⟩
  refine wp_region_any hm (fd7 (S:=ti7 (tr7 M σ.H ks) w.drew) (fins:=fins) _ _ _ _ ?_)
  rw[show ops.size=lq.length+(ops.size-lq.length) by omega]
  refine of7 b2 hQp (ti7.refl _ _) lq _ listed a (fun j oj _ hl=>by rw[getD_replicate_false]at hl;cases hl) (by rw[show lq.length+(ops.size-lq.length)=ops.size by omega];exact hq) (nq7 hT hd lq h2 h0 b4 hw) fun a' _ ⟨σ',q1,q2,q3,q4⟩=>?_
  rcases dp7 (w0:=w.drew) (M0:=M) (H0:=σ.H) hT hd rfl T q1 b5 q4 (fun _=>ti7.refl _ _) q3.kp
   (fun a2 w2 hA=>hQ a2 w2 (by
    obtain⟨M2,σ2,r1,r2,r3⟩:=hA.step q3 fun _ h=>h
    exact⟨M2,σ2,r1,⟨r2.len,(Kp.below h.rel hb).trans r2.kp,r2.tm⟩,r3⟩))
   (fun a2 ch w2 hd hp=>hP a2 ch w2 hd ((hp.step q3.kp q3.len).step (Kp.below h.rel hb) (Nat.le_refl _))) with ⟨-,h⟩ | ⟨⟨g0,g1⟩,g2⟩
  ·exact h
  ·obtain⟨m,hm⟩:∃m,ops.size-lq.length=m+1:=⟨ops.size-lq.length-1,by omega⟩
   rw[hm]
   exact⟨fun h0=>absurd h0 g1,fun i hi=>(g2 m hm i hi).resolve_left (by simp)⟩
end
theorem fp7 (n:Nat) (ids:List Nat):∀(tm:Tm) (t:Nat),lk (oeb7 n ids tm) t=((lk tm t).1,zfb7 n ids (lk tm t).2)
 | [],_=>rfl
 | (k,g,v)::l,t=>by
  simp only[oeb7,lk]
  split
  ·rfl
  ·exact fp7 n ids l t
theorem lp7 (n:Nat) (ids:List Nat) (tm:Tm):∀vy:List Nat,gets (oeb7 n ids tm) vy=renG n ids (gets tm vy)
 | []=>rfl
 | t::l=>by simp only[gets,renG,fp7,lp7 n ids tm l]
theorem pl7 (n:Nat) (ids:List Nat):∀l:List Root,(ts7 n ids l).length=l.length
 | []=>rfl
 | _::l=>by simp[ts7,pl7 n ids l]
theorem zp7 (n:Nat) (ids:List Nat) (H:List Root):∀l:List Nat,(ao7 n ids H l).length=l.length
 | []=>rfl
 | _::l=>by simp[ao7,zp7 n ids H l]
theorem jv7 (n:Nat) (ids:List Nat):∀(l:List Root) (j:Nat),aa7 (ts7 n ids l) j=nd7 n ids (aa7 l j)
 | [],_=>rfl
 | _::_,0=>rfl
 | _::l,j+1=>by simp only[ts7,aa7];exact jv7 n ids l j
theorem zc7:∀(l m:List Root) (j:Nat),aa7 (l++m) j=if j<l.length then aa7 l j else aa7 m (j-l.length)
 | [],m,j=>by simp
 | a::l,m,0=>by simp[aa7]
 | a::l,m,j+1=>by
  simp only[List.cons_append,aa7,List.length_cons,zc7 l m j,Nat.add_lt_add_iff_right]
  congr 2
  omega
theorem vu7 (n:Nat) (ids:List Nat) (H:List Root):∀(l:List Nat) (j:Nat),aa7 (ao7 n ids H l) j=match l[j]? with
  | some i=>nd7 n ids (aa7 H i)
  | none=>.dead
 | [],j=>by simp[ao7,aa7]
 | _::_,0=>by simp[ao7,aa7]
 | _::l,j+1=>by simp only[ao7,aa7,List.getElem?_cons_succ];exact vu7 n ids H l j
def src (n:Nat) (ids:List Nat) (j:Nat):Option Nat:=if j<n then some j else ids[j-n]?
theorem rib7 {n:Nat}{ids:List Nat}{H:List Root}(hn:n≤H.length) (j:Nat):aa7 (hp7 n ids H) j=match src n ids j with
  | some i=>nd7 n ids (aa7 H i)
  | none=>.dead:=by
 have hl:(H.take n).length=n:=by simp;omega
 unfold hp7 src
 rw[zc7,pl7,hl,jv7,ke7,vu7]
 by_cases h:j<n
 ·simp[h]
 ·simp[h]
theorem ne7 {n:Nat}{ids:List Nat}{H:List Root}(hn:n≤H.length):(hp7 n ids H).length=n+ids.length:=by
 unfold hp7
 rw[List.length_append,pl7,zp7,List.length_take]
 omega
theorem zu7:∀(l:List Nat) (id k j:Nat),pos l id k=some j→k≤j∧l[j-k]? = some id
 | [],_,_,_,h=>by cases h
 | a::l,id,k,j,h=>by
  simp only[pos]at h
  split at h
  ·rename_i e
   cases h
   exact⟨Nat.le_refl _,by simp[e]⟩
  ·obtain⟨h1,h2⟩:=zu7 l id (k+1) j h
   refine⟨by omega, ?_⟩
   rw[show j-k=(j-(k+1))+1 by omega,List.getElem?_cons_succ]
   exact h2
theorem gr7 {n:Nat}{ids:List Nat}{id j:Nat}(h:jbb7 n ids id=some j):src n ids j=some id:=by
 unfold jbb7 at h
 unfold src
 split at h
 ·cases h;rename_i h;rw[if_pos h]
 ·obtain⟨h1,h2⟩:=zu7 _ _ _ _ h
  rw[if_neg (by omega),h2]
theorem sfb7 {n:Nat}{ids:List Nat}{j i:Nat}(h:src n ids j=some i):j<n+ids.length:=by
 unfold src at h
 split at h
 ·omega
 ·have:=(List.getElem?_eq_some_iff.1 h).1;omega
theorem ar7 (n:Nat) (ids:List Nat):∀l:List (List AV),(go7 n ids l).length=l.length
 | []=>rfl
 | _::l=>by simp[go7,ar7 n ids l]
theorem hr7 (n:Nat) (ids:List Nat):∀(l:List (List AV)) (i:Nat),(go7 n ids l).getD i []=xx7 n ids (l.getD i [])
 | [],_=>rfl
 | _::_,0=>rfl
 | _::l,i+1=>by simpa[go7]using hr7 n ids l i
theorem yf7 (n:Nat) (ids:List Nat) (r:Row):(er7 n ids r).len=r.len:=by
 cases r with
 | own l=>exact ar7 n ids l
 | _=>rfl
theorem zw7 (n:Nat) (ids:List Nat) (r:Row):(er7 n ids r).one=r.one:=by cases r <;> rfl
theorem qx7 (n:Nat) (ids:List Nat) (r:Row):(er7 n ids r).isBox=r.isBox:=by cases r <;> rfl
theorem xs7 (n:Nat) (ids:List Nat):∀(l:List AV) (o:Nat),nth (xx7 n ids l) o=im7 n ids (nth l o)
 | [],_=>rfl
 | _::_,0=>rfl
 | _::l,o+1=>by simp only[xx7,nth];exact xs7 n ids l o
theorem wy7 {n:Nat}:∀{l:List Nat},okI n l=true→(∀i∈l,n≤i)∧∀(j k i:Nat),l[j]? = some i→l[k]? = some i→j=k
 | [],_=>⟨fun _ h=>(by cases h),fun j k i h=>by simp at h⟩
 | a::l,h=>by
  simp only[okI,Bool.and_eq_true,decide_eq_true_eq,Bool.not_eq_true',List.contains_eq_mem,decide_eq_false_iff_not]at h
  obtain⟨⟨h1,h2⟩,h3⟩:=h
  obtain⟨k1,k2⟩:=wy7 h3
  refine⟨fun i hi=>?_,fun j k i hj hk=>?_⟩
  ·rcases List.mem_cons.1 hi with rfl | hi
   ·exact h1
   ·exact k1 i hi
  ·cases j with
   | zero =>
    cases k with
    | zero=>rfl
    | succ k =>
     simp at hj hk
     subst hj
     exact absurd (List.mem_of_getElem? hk) h2
   | succ j =>
    cases k with
    | zero =>
     simp at hj hk
     subst hk
     exact absurd (List.mem_of_getElem? hj) h2
    | succ k =>
     simp at hj hk
     rw[k2 j k i hj hk]
theorem bjb7 {n:Nat}{ids:List Nat}(ho:okI n ids=true) {i j k:Nat}(h1:src n ids i=some k) (h2:src n ids j=some k):i=j:=by
 obtain⟨k1,k2⟩:=wy7 ho
 unfold src at h1 h2
 split at h1
 ·cases h1
  split at h2
  ·cases h2;rfl
  ·have:=k1 _ (List.mem_of_getElem? h2);omega
 ·split at h2
  ·cases h2
   have:=k1 _ (List.mem_of_getElem? h1);omega
  ·have:=k2 _ _ _ h1 h2;omega
section
variable {E:Env} {nt:Nat} {M:Mp} {H:List Root} {σ:AS} {a:Act} {w:World} {n:Nat} {ids:List Nat}
def ix7 (n:Nat) (ids:List Nat) (M:Mp):Mp:=⟨fun j=>match src n ids j with
 | some i=>M.phi i
 | none=>0,fun j=>match src n ids j with
 | some i=>M.off i
 | none=>0,M.rho,M.tau⟩
theorem cd7 {j i:Nat}(h:src n ids j=some i):(ix7 n ids M).phi j=M.phi i:=by
 show (match src n ids j with | some i=>M.phi i | none=>0)=_
 rw[h]
theorem ko7 {j i:Nat}(h:src n ids j=some i):(ix7 n ids M).off j=M.off i:=by
 show (match src n ids j with | some i=>M.off i | none=>0)=_
 rw[h]
theorem ad7 (hn:n≤H.length) {j:Nat}{fz:Bool}{t:TypeId}{sz:Nat}{r:Row}(h:aa7 (hp7 n ids H) j = .live fz t sz r):∃i r0,src n ids j=some i∧aa7 H i = .live fz t sz r0∧r=er7 n ids r0:=by
 rw[rib7 hn]at h
 cases hs:src n ids j with
 | none=>rw[hs]at h;cases h
 | some i =>
  rw[hs]at h
  simp only at h
  cases hr:aa7 H i with
  | dead=>rw[hr]at h;cases h
  | live fz' t' sz' r'=>rw[hr]at h;cases h;exact⟨i,r',rfl,hr,rfl⟩
theorem Con.ren (hn:n≤H.length) {x:AV}{v:Value}(h:Con M H w x v):Con (ix7 n ids M) (hp7 n ids H) w (im7 n ids x) v:=by
 cases x with
 | ptr id m i o =>
  simp only[im7]
  cases hs:jbb7 n ids id with
  | none=>trivial
  | some j =>
   have hsr:=gr7 hs
   refine⟨⟨by rw[ne7 hn];exact sfb7 hsr,h.1.2⟩,fun fz t sz r hr=>?_⟩
   obtain⟨i0,r0,k1,k2,rfl⟩:=ad7 hn hr
   rw[hsr]at k1
   cases k1
   rw[yf7,cd7 hsr,ko7 hsr]
   exact h.2 _ _ _ _ k2
 | h id st len =>
  simp only[im7]
  cases hs:jbb7 n ids id with
  | none=>trivial
  | some j =>
   have hsr:=gr7 hs
   refine⟨⟨by rw[ne7 hn];exact sfb7 hsr,h.1.2⟩,fun fz t sz r hr=>?_⟩
   obtain⟨i0,r0,k1,k2,rfl⟩:=ad7 hn hr
   rw[hsr]at k1
   cases k1
   rw[yf7,cd7 hsr,ko7 hsr]
   exact h.2 _ _ _ _ k2
 | junk=>trivial
 | _=>exact h
theorem mb7.ren (hn:n≤H.length):∀{l:List AV}{vs:List Value},mb7 M H w l vs→mb7 (ix7 n ids M) (hp7 n ids H) w (xx7 n ids l) vs
 | [],_,h=>h
 | _::_,_,⟨v,r,e,h1,h2⟩=>⟨v,r,e,h1.ren hn,mb7.ren hn h2⟩
mutual
theorem ha7.ren (hn:n≤H.length):∀{x:RV}{v:Value},ha7 M H w x v→ha7 (ix7 n ids M) (hp7 n ids H) w (zfb7 n ids x) v
 | .c _,_,h=>Con.ren hn h
 | .agg _,_,⟨vs,e,h⟩=>⟨vs,e,mb7.ren hn h⟩
 | .fn _ _ _,_,⟨vs,e,h⟩=>⟨vs,e,mb7.ren hn h⟩
 | .tup _,_,⟨vs,e,h⟩=>⟨vs,e,ab7.ren hn h⟩
 | .ifc _ _,_,⟨u,e,h⟩=>⟨u,e,ha7.ren hn h⟩
theorem ab7.ren (hn:n≤H.length):∀{x:List RV}{vs:List Value},ab7 M H w x vs→ab7 (ix7 n ids M) (hp7 n ids H) w (ddb7 n ids x) vs
 | [],_,h=>h
 | _::_,_,⟨v,r,e,h1,h2⟩=>⟨v,r,e,ha7.ren hn h1,ab7.ren hn h2⟩
end
theorem Rel.ren (h:Rel E M H w) (hn:n≤H.length) (ho:okI n ids=true):Rel E (ix7 n ids M) (hp7 n ids H) w:=by
 refine⟨h.bel,fun id fz t sz r hr=>?_,fun id fz t sz r hr=>?_,fun id t sz r hr=>?_,fun id t sz r hr=>?_,fun i j t s r t' s' r' hi hj he=>?_,h.rlt,h.src,h.tau.keep rfl (fun _ _ _=>rfl) (fun b q hq=>(h.tau.new b q hq).2) fun b q j fz t s r hq hj=>(by
  obtain⟨i,r0,k1,k2,rfl⟩:=ad7 hn hj
  rw[cd7 k1];exact h.tau.row _ _ _ _ _ _ _ hq k2)⟩
 ·obtain⟨i,r0,k1,k2,rfl⟩:=ad7 hn hr
  rw[cd7 k1];exact h.low _ _ _ _ _ k2
 ·obtain⟨i,r0,k1,k2,rfl⟩:=ad7 hn hr
  rw[cd7 k1,ko7 k1]
  obtain⟨cur,c1,c2,c3,c4,c5,c6⟩:=h.row _ _ _ _ _ k2
  refine⟨cur,c1,c2,by rw[yf7];exact c3,c4,by rw[zw7];exact c5,fun i hi o ho2=>?_⟩
  rw[yf7]at hi
  obtain⟨v,q1,q2,q3⟩:=c6 i hi o ho2
  refine⟨v,q1,q2, ?_⟩
  unfold vd7 at q3 ⊢
  rw[qx7]
  cases r0 with
  | box l =>
   simp only[Row.isBox,if_true]at q3 ⊢
   show Con _ _ w (nth (xx7 n ids l) o) v
   rw[xs7]
   exact q3.ren hn
  | own l =>
   simp only[Row.isBox,if_true]at q3 ⊢
   show Con _ _ w (nth ((go7 n ids l).getD i []) o) v
   rw[hr7,xs7]
   exact q3.ren hn
  | _=>exact q3
 ·obtain⟨i,r0,k1,k2,rfl⟩:=ad7 hn hr
  rw[cd7 k1];exact h.froz _ _ _ _ k2
 ·obtain⟨i,r0,k1,k2,rfl⟩:=ad7 hn hr
  rw[cd7 k1];exact h.thaw _ _ _ _ k2
 ·obtain⟨i0,r0,k1,k2,rfl⟩:=ad7 hn hi
  obtain⟨j0,r1,k3,k4,rfl⟩:=ad7 hn hj
  rw[cd7 k1,cd7 k3]at he
  obtain rfl:=h.inj _ _ _ _ _ _ _ _ k2 k4 he
  exact bjb7 ho k1 k3
def xrb7 (n:Nat) (ids:List Nat) (σ:AS):AS:=⟨oeb7 n ids σ.tm,hp7 n ids σ.H⟩
theorem St.ren (h:St E nt M σ a w) (hn:n≤σ.H.length) (ho:okI n ids=true):St E nt (ix7 n ids M) (xrb7 n ids σ) a w:=by
 refine⟨h.rel.ren hn ho,fun t ht=>?_,fun t ht=>?_,h.sz,h.df⟩
 ·have ht:(lk (oeb7 n ids σ.tm) t).1=true:=ht
  show ha7 _ _ w (lk (oeb7 n ids σ.tm) t).2 _
  rw[fp7]at ht ⊢
  exact (h.tms t ht).ren hn
 ·have ht:(lk (oeb7 n ids σ.tm) t).1=false:=ht
  rw[fp7]at ht
  exact h.off t ht
theorem yh7 {x:AV}(hs:x.scp n=true):im7 n ids x=x:=by
 cases x with
 | ptr id m i o =>
  have:id<n:=by simpa[AV.scp]using hs
  simp only[im7,jbb7,if_pos this,acb7]
 | h id st len =>
  have:id<n:=by simpa[AV.scp]using hs
  simp only[im7,jbb7,if_pos this,mkH]
 | _=>rfl
theorem lu7:∀d k:Nat,aa7 (List.replicate d .dead) k = .dead
 | 0,_=>rfl
 | _+1,0=>rfl
 | d+1,k+1=>by simp only[List.replicate_succ,aa7];exact lu7 d k
theorem ff7 (H:List Root) (d j:Nat):aa7 (H++List.replicate d .dead) j=aa7 H j:=by
 rw[zc7]
 split
 ·rfl
 ·rename_i h
  rw[lu7,uf7 (H:=H) (by omega)]
theorem Con.dead (d:Nat) {x:AV}{v:Value}(h:Con M H w x v):Con M (H++List.replicate d .dead) w x v:=by
 cases x with
 | ptr id m i o=>exact⟨⟨by rw[List.length_append];have:=h.1.1;omega,h.1.2⟩,fun fz t sz r hr=>h.2 _ _ _ _ (by rw[ff7]at hr;exact hr)⟩
 | h id st len=>exact⟨⟨by rw[List.length_append];have:=h.1.1;omega,h.1.2⟩,fun fz t sz r hr=>h.2 _ _ _ _ (by rw[ff7]at hr;exact hr)⟩
 | junk=>trivial
 | _=>exact h
theorem mb7.dead (d:Nat):∀{l:List AV}{vs:List Value},mb7 M H w l vs→mb7 M (H++List.replicate d .dead) w l vs
 | [],_,h=>h
 | _::_,_,⟨v,r,e,h1,h2⟩=>⟨v,r,e,h1.dead d,mb7.dead d h2⟩
mutual
theorem ha7.dead (d:Nat):∀{x:RV}{v:Value},ha7 M H w x v→ha7 M (H++List.replicate d .dead) w x v
 | .c _,_,h=>Con.dead d h
 | .agg _,_,⟨vs,e,h⟩=>⟨vs,e,mb7.dead d h⟩
 | .fn _ _ _,_,⟨vs,e,h⟩=>⟨vs,e,mb7.dead d h⟩
 | .tup _,_,⟨vs,e,h⟩=>⟨vs,e,ab7.dead d h⟩
 | .ifc _ _,_,⟨u,e,h⟩=>⟨u,e,ha7.dead d h⟩
theorem ab7.dead (d:Nat):∀{x:List RV}{vs:List Value},ab7 M H w x vs→ab7 M (H++List.replicate d .dead) w x vs
 | [],_,h=>h
 | _::_,_,⟨v,r,e,h1,h2⟩=>⟨v,r,e,ha7.dead d h1,ab7.dead d h2⟩
end
theorem Rel.dead (d:Nat) (h:Rel E M H w):Rel E M (H++List.replicate d .dead) w:=by
 refine⟨h.bel,fun id fz t sz r hr=>?_,fun id fz t sz r hr=>?_,fun id t sz r hr=>?_,fun id t sz r hr=>?_,fun i j t s r t' s' r' hi hj he=>?_,h.rlt,h.src,h.tau.keep rfl (fun _ _ _=>rfl) (fun b q hq=>(h.tau.new b q hq).2) fun b q j fz t s r hq hj=>(by rw[ff7]at hj;exact h.tau.row _ _ _ _ _ _ _ hq hj)⟩
 ·rw[ff7]at hr;exact h.low _ _ _ _ _ hr
 ·rw[ff7]at hr
  obtain⟨cur,c1,c2,c3,c4,c5,c6⟩:=h.row _ _ _ _ _ hr
  refine⟨cur,c1,c2,c3,c4,c5,fun i hi o ho2=>?_⟩
  obtain⟨v,q1,q2,q3⟩:=c6 i hi o ho2
  refine⟨v,q1,q2, ?_⟩
  unfold vd7 at q3 ⊢
  split
  ·rename_i hb;rw[if_pos hb]at q3;exact q3.dead d
  ·rename_i hb;rw[if_neg hb]at q3;exact q3
 ·rw[ff7]at hr;exact h.froz _ _ _ _ hr
 ·rw[ff7]at hr;exact h.thaw _ _ _ _ hr
 ·rw[ff7]at hi hj;exact h.inj _ _ _ _ _ _ _ _ hi hj he
end
end Go.Proofs.YtabadfkikdefeaaGreat.Ab
